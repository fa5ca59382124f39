import Derived.Test.YtollegoajlfdiaaGreatPart36
import Derived.Test.YtollegoajlfdiaaGreatPart31
import Derived.Test.YtollegoajlfdiaaGreatPart17
import Derived.Test.YtollegoajlfdiaaGreatPart20
import Derived.Test.YtollegoajlfdiaaGreatPart23
import Derived.Deep.CutRange
/-
  Walk: the law of touched hours.
-/
namespace Go.Proofs.YtollegoajlfdiaaGreat
open Go.RowKit Lg Go.Sort Go.Shelf Go.Maps

theorem rateSet {W : World} {B : Nat} {t : TypeId} (k : Blk W B #[.int .i64 0, .int .i64 0, .int .i64 0, .string ⟨#[]⟩, .int .i64 0, .int .i64 0, .int .i64 0, .int .i64 0, .int .i64 0] t) (z : Rate) :
    Blk (((((((((W.setCell ⟨B, 0, none⟩ (.int .i64 z.id)).setCell ⟨B, 1, none⟩ (.int .i64 z.known)).setCell ⟨B, 2, none⟩ (.int .i64 z.from_)).setCell ⟨B, 3, none⟩ (.string z.goods)).setCell ⟨B, 4, none⟩ (.int .i64 z.finder.num)).setCell ⟨B, 5, none⟩ (.int .i64 z.finder.den)).setCell ⟨B, 6, none⟩ (.int .i64 z.cart)).setCell ⟨B, 7, none⟩ (.int .i64 z.store)).setCell ⟨B, 8, none⟩ (.int .i64 z.of_)) B (cR z).toArray t :=
  by
  have e : (((((((((#[.int .i64 0, .int .i64 0, .int .i64 0, .string ⟨#[]⟩, .int .i64 0, .int .i64 0, .int .i64 0, .int .i64 0, .int .i64 0] : Array Value).setIfInBounds 0 (.int .i64 z.id)).setIfInBounds 1 (.int .i64 z.known)).setIfInBounds 2 (.int .i64 z.from_)).setIfInBounds 3 (.string z.goods)).setIfInBounds 4 (.int .i64 z.finder.num)).setIfInBounds 5 (.int .i64 z.finder.den)).setIfInBounds 6 (.int .i64 z.cart)).setIfInBounds 7 (.int .i64 z.store)).setIfInBounds 8 (.int .i64 z.of_) = (cR z).toArray := by kernel_rfl
  rw [← e]
  exact ((((((((k.setCell 0 _).setCell 1 _).setCell 2 _).setCell 3 _).setCell 4 _).setCell 5 _).setCell 6 _).setCell 7 _).setCell 8 _

theorem belowSet {W0 W : World} {B n : Nat} (h : RowKit.Below n W0 W) (hB : n ≤ B) (z : Rate) :
    RowKit.Below n W0 (((((((((W.setCell ⟨B, 0, none⟩ (.int .i64 z.id)).setCell ⟨B, 1, none⟩ (.int .i64 z.known)).setCell ⟨B, 2, none⟩ (.int .i64 z.from_)).setCell ⟨B, 3, none⟩ (.string z.goods)).setCell ⟨B, 4, none⟩ (.int .i64 z.finder.num)).setCell ⟨B, 5, none⟩ (.int .i64 z.finder.den)).setCell ⟨B, 6, none⟩ (.int .i64 z.cart)).setCell ⟨B, 7, none⟩ (.int .i64 z.store)).setCell ⟨B, 8, none⟩ (.int .i64 z.of_)) :=
  ((((((((h.setCell (p := ⟨B, 0, none⟩) hB _).setCell (p := ⟨B, 1, none⟩) hB _).setCell (p := ⟨B, 2, none⟩) hB _).setCell (p := ⟨B, 3, none⟩) hB _).setCell (p := ⟨B, 4, none⟩) hB _).setCell (p := ⟨B, 5, none⟩) hB _).setCell (p := ⟨B, 6, none⟩) hB _).setCell (p := ⟨B, 7, none⟩) hB _).setCell (p := ⟨B, 8, none⟩) hB _

set_option maxRecDepth 100000 in
set_option maxHeartbeats 25600000 in
theorem lawTouched_any (a : Option Addr) (n cap : Nat) (xs : List Rate) (x : Rate) (goods : ByteArray) (hour : Int) (w : World) (hL : Lst w 9 cR a n cap xs) :
    Calls Tryz.prog 6 #[.slice a n cap, aR x, .string goods, .int .i64 hour] w (Gives w (.bool true)) := by
  have hp := paid_any
  have hB0 : RowKit.Below w.heap.size w (w.alloc (.cells #[.int .i64 x.id, .int .i64 x.known, .int .i64 x.from_, .string x.goods, .int .i64 x.finder.num, .int .i64 x.finder.den, .int .i64 x.cart, .int .i64 x.store, .int .i64 x.of_] 26)) := (Below.refl _ w).alloc (Nat.le_refl _) _
  have hf := few_any a n cap xs _ (hL.below hB0)
  by_cases h1 : (30 : Int) < (n : Int)
  · clear hL hf
    go_enter Tryz.func6, Tryz.ntmps6
    go_wp2_with (go_at_call 16; refine (hp _).mono ?_; rintro e w5 ⟨rfl, hB5⟩)
    go_ret
    exact ⟨rfl, hB0.trans (hB5.mono hB0.size)⟩
  cases h3 : fewOf xs
  · rw [h3] at hf
    clear hL h3
    go_enter Tryz.func6, Tryz.ntmps6
    go_wp2_with (first | (go_at_call 15; (with_reducible refine hf.mono ?_); rintro e w5 ⟨rfl, rfl⟩) | (go_at_call 16; refine (hp _).mono ?_; rintro e w5 ⟨rfl, hB5⟩))
    go_ret
    exact ⟨rfl, hB0.trans (hB5.mono hB0.size)⟩
  rw [h3] at hf
  clear h3
  by_cases h4 : (100 : Int) < (goods.size : Int)
  · clear hL
    go_enter Tryz.func6, Tryz.ntmps6
    go_wp2_with (first | (go_at_call 15; (with_reducible refine hf.mono ?_); rintro e w5 ⟨rfl, rfl⟩) | (go_at_call 16; refine (hp _).mono ?_; rintro e w5 ⟨rfl, hB5⟩))
    go_ret
    exact ⟨rfl, hB0.trans (hB5.mono hB0.size)⟩
  by_cases h5 : (100 : Int) < (x.goods.size : Int)
  · clear hL
    go_enter Tryz.func6, Tryz.ntmps6
    go_wp2_with (first | (go_at_call 15; (with_reducible refine hf.mono ?_); rintro e w5 ⟨rfl, rfl⟩) | (go_at_call 16; refine (hp _).mono ?_; rintro e w5 ⟨rfl, hB5⟩))
    go_ret
    exact ⟨rfl, hB0.trans (hB5.mono hB0.size)⟩
  have hA := fun W (hB : RowKit.Below w.heap.size w W) => appendRate0_any a n cap xs x W (hL.below hB)
  have hT := fun W (hB : RowKit.Below w.heap.size w W) => touched0_any a n cap xs x goods W (hL.below hB)
  by_cases h0 : (appendRate xs x).2 = 0
  · have hm := (appendRate_ok h0).1
    have hv := (appendRate_ok h0).2.1
    have hlx : xs.length ≤ 30 := by have := hL.len; omega
    obtain ⟨f, u, ok, ht, hf1, hf2, hu1, hu2, hok, hdiff, hall⟩ := touched_law goods h0
    rw [ht] at hT
    rw [h0, hm] at hA
    have hR1 := fun (t : Int) W (hB : RowKit.Below w.heap.size w W) => rateOf_any a n cap xs goods t x.known W (hL.below hB)
    have hR2 := fun (t : Int) (a' : Option Addr) (n' cap' : Nat) W (hM : Lst W 9 cR a' n' cap' (xs ++ [x])) => rateOf_any a' n' cap' (xs ++ [x]) goods t x.known W hM
    have hTu := fun W (hB : RowKit.Below w.heap.size w W) => turns_any a n cap xs goods x.known W (hL.below hB)
    have hTl := fun (t : Int) => turns_law hv goods x.known t
    have HR1 := Lib.hid hR1
    have HR2 := Lib.hid hR2
    have HTu := Lib.hid hTu
    have HTl := Lib.hid hTl
    have Hok := Lib.hid hok
    have Hdiff := Lib.hid hdiff
    have Hall := Lib.hid hall
    clear hR1 hR2 hTu hTl hok hdiff hall ht h0 hm hv hL
    go_enter Tryz.func6, Tryz.ntmps6
    go_wp2_with (first | (go_at_call 15; (with_reducible refine hf.mono ?_); rintro e w5 ⟨rfl, rfl⟩) | fail)
    clear hf
    have k0 := Blk.new w 26 #[.int .i64 x.id, .int .i64 x.known, .int .i64 x.from_, .string x.goods, .int .i64 x.finder.num, .int .i64 x.finder.den, .int .i64 x.cart, .int .i64 x.store, .int .i64 x.of_]
    refine (hA _ hB0).mono ?_
    clear hA
    rintro e w1 ⟨v, rfl, ho, hB1⟩
    have k0 := k0.below' hB1
    have hB1 := hB0.trans (hB1.mono hB0.size)
    obtain ⟨am, cm, rfl, _, hM⟩ := Lst.of_owns (k := 9) (enc := cR) (fun _ => rfl) (by omega) ho rfl
    rw [show (xs ++ [x]).length = xs.length + 1 by simp] at hM ⊢
    clear ho hB0
    have e0 := k0.cell
    go_wp2_with (fail)
    refine (hT _ hB1).mono ?_
    clear hT
    rintro e w2 ⟨rfl, hB2⟩
    have k0 := k0.below' hB2
    have hM := hM.below hB2
    have hB2 := hB1.trans (hB2.mono hB1.size)
    clear e0 hB1
    dsimp only
    go_wp2_with (fail)
    obtain ⟨W3, hW3⟩ : ∃ W3, W3 = w2.alloc (.cells #[.int .i64 hour, .int .i64 f, .int .i64 u] 3) := ⟨_, rfl⟩
    rw [← hW3]
    have kN : Blk W3 w2.heap.size #[.int .i64 hour, .int .i64 f, .int .i64 u] 3 := by rw [hW3]; exact Blk.new w2 _ _
    have hz : RowKit.Below w2.heap.size w2 W3 := hW3 ▸ (Below.refl _ w2).alloc (Nat.le_refl _) _
    have k0 := k0.below' hz
    have hM := hM.below hz
    have hB3 := hB2.trans (hz.mono hB2.size)
    obtain ⟨bN, hbN⟩ : ∃ bN, bN = w2.heap.size := ⟨_, rfl⟩
    rw [← hbN] at kN ⊢
    obtain ⟨bx, hbx⟩ : ∃ bx, bx = w.heap.size := ⟨_, rfl⟩
    rw [← hbx] at k0 ⊢
    clear hW3 hz hB2 hbN hbx
    go_loopw [16] (fun i wr => ∃ k : Nat, k ≤ 3 ∧ i = .int .i64 k ∧ RowKit.Below W3.heap.size W3 wr) (fun i _ => 3 - (intOf i).toNat)
    case atStart => exact ⟨0, by omega, rfl, Below.refl _ _⟩
    case round =>
      obtain ⟨k, hk, rfl, hBr⟩ := hrel
      have kN := kN.below' hBr
      have k0 := k0.below' hBr
      have hM := hM.below hBr
      have hBw := hB3.trans (hBr.mono hB3.size)
      by_cases hlt : k < 3
      · have hltz : (k : Int) < 3 := by omega
        obtain ⟨t, ht, ht0, ht1, ht2⟩ : ∃ t, (#[Value.int .i64 hour, .int .i64 f, .int .i64 u] : Array Value)[k]? = some (.int .i64 t) ∧ (k = 0 → t = hour) ∧ (k = 1 → t = f) ∧ (k = 2 → t = u) := by
          have : k = 0 ∨ k = 1 ∨ k = 2 := by omega
          rcases this with rfl | rfl | rfl
          · exact ⟨hour, rfl, fun _ => rfl, by omega, by omega⟩
          · exact ⟨f, rfl, by omega, fun _ => rfl, by omega⟩
          · exact ⟨u, rfl, by omega, by omega, fun _ => rfl⟩
        have cN := (kN.cell k).trans ht
        clear ht
        by_cases q1 : t < 0
        · go_wp2_with (fail)
          go_roundw
          case rel => exact ⟨k + 1, by omega, by go_num, hBr⟩
          case measure => simp [intOf]; omega
        by_cases q2 : 1000000 < t
        · go_wp2_with (fail)
          go_roundw
          case rel => exact ⟨k + 1, by omega, by go_num, hBr⟩
          case measure => simp [intOf]; omega
        have hR1 := fun W (h : RowKit.Below wr.heap.size wr W) => HR1.out t W (hBw.trans (h.mono hBw.size))
        have hR2 := fun W (h : RowKit.Below wr.heap.size wr W) => HR2.out t am _ cm W (hM.below h)
        obtain ⟨⟨ra, ga⟩, hra⟩ : ∃ r, r = rateOf xs goods t x.known := ⟨_, rfl⟩
        obtain ⟨⟨rb, gb⟩, hrb⟩ : ∃ r, r = rateOf (xs ++ [x]) goods t x.known := ⟨_, rfl⟩
        rw [← hra] at hR1
        rw [← hrb] at hR2
        dsimp only at hR1 hR2
        have Hra := Lib.hid hra
        have Hrb := Lib.hid hrb
        have hR1 : ∀ W, RowKit.Below wr.heap.size wr W → Calls Tryz.prog 17 #[.slice a n cap, .string goods, .int .i64 t, .int .i64 x.known] W fun e w' => e = .returned (.tuple #[aR ra, .int .i64 ga]) ∧ RowKit.Below W.heap.size W w' ∧ RowKit.Below wr.heap.size wr w' := fun W h => (hR1 W h).mono fun e w' q => ⟨q.1, q.2, h.trans (q.2.mono h.size)⟩
        have HR1' := Lib.hid hR1
        have HR2' := Lib.hid hR2
        clear hra hrb hR1 hR2
        have hk0 : ∀ W, RowKit.Below wr.heap.size wr W → W.cell? ⟨bN, k, none⟩ = some (.int .i64 t) ∧ W.cell? ⟨bx, 1, none⟩ = some (.int .i64 x.known) := fun W h => ⟨(h.cell (p := ⟨bN, k, none⟩) kN.lt).trans cN, (k0.below' h).cell 1⟩
        have HK := Lib.hid hk0
        clear hk0
        go_upto_region 14 with fail
        clear cN
        rename_i e1 e2 e3 e4 e5 e6 e7 kk aa f1 f2 f3 z2 z3 z4 z5 z6
        clear e1 e2 e3 e4 e5 e6 e7 aa f1 f2 f3 hB1 hB2
        go_cut [17, 18] (fun c17 c18 W => ∃ B, c17 = .pointer (some ⟨B, 0, none⟩) ∧ c18 = .int .i64 ga ∧ Blk W B (cR ra).toArray 26 ∧ RowKit.Below wr.heap.size wr W)
        case first =>
          clear HR1 HR2 HTu HTl Hok Hdiff Hall Hra Hrb HR2' kN k0 hM hBr hBw hlt hB3 hp hlx
          rename_i j1 j2 j3 j4
          clear_value z2
          clear kk z4 z6
          clear hf1 hf2 hu1 hu2 h1 h4 h5 ht0 ht1 ht2 q1 q2
          go_region_held3 (fun w' => w'.cell? ⟨bN, k, none⟩ = some (.int .i64 t) ∧ w'.cell? ⟨bx, 1, none⟩ = some (.int .i64 x.known))
            (((with_reducible refine HK.out _ ?_); repeat (first | (with_reducible assumption) | (with_reducible exact Below.refl _ _) | (with_reducible refine Below.alloc ?_ ?_ _) | (with_reducible refine Below.setCell ?_ ?_ _) | (with_reducible refine Below.drew ?_) | omega | (simp <;> omega) | (dsimp only; omega))))
            (first
              | (go_at_call 17; (with_reducible refine (HR1'.out _ (by repeat (first | (with_reducible assumption) | (with_reducible exact Below.refl _ _) | (with_reducible refine Below.alloc ?_ ?_ _) | (with_reducible refine Below.setCell ?_ ?_ _) | (with_reducible refine Below.drew ?_) | omega | (simp <;> omega) | (dsimp only; omega)))).mono ?_); rintro e w7 ⟨rfl, hB7, hb7⟩; have hs7 := hb7.size; (first | (have kA := ((Blk.new wr 26 #[.int .i64 0, .int .i64 0, .int .i64 0, .string ⟨#[]⟩, .int .i64 0, .int .i64 0, .int .i64 0, .int .i64 0, .int .i64 0]).drew).below' hB7; have kAc := kA.cell; have kAf := kA.frozen; have kAl := kA.lt) | skip))
              | fail)
          · rename_i hSx
            clear hSx
            go_wp2_with fail
            go_meet
            exact ⟨_, rfl, rfl, Blk.new _ _ _, hb7.alloc hs7 _⟩
          · rename_i hSx
            clear hSx
            go_wp2_with fail
            go_meet
            exact ⟨_, rfl, rfl, rateSet kA ra, belowSet hb7 (Nat.le_refl _) ra⟩
        case rest =>
          obtain ⟨B1, rfl, rfl, kA1, hC1⟩ := hcut
          obtain ⟨w8, hw8⟩ : ∃ w8, w8 = wc := ⟨_, rfl⟩
          rw [← hw8] at kA1 hC1 ⊢
          clear hw8
          have hR2 : ∀ W, RowKit.Below w8.heap.size w8 W → Calls Tryz.prog 17 #[.slice am (xs.length + 1) cm, .string goods, .int .i64 t, .int .i64 x.known] W fun e w' => e = .returned (.tuple #[aR rb, .int .i64 gb]) ∧ RowKit.Below W.heap.size W w' ∧ RowKit.Below w8.heap.size w8 w' := fun W h => (HR2'.out W (hC1.trans (h.mono hC1.size))).mono fun e w' q => ⟨q.1, q.2, h.trans (q.2.mono h.size)⟩
          have HR3 := Lib.hid hR2
          have hk8 : ∀ W, RowKit.Below w8.heap.size w8 W → W.cell? ⟨bN, k, none⟩ = some (.int .i64 t) ∧ W.cell? ⟨bx, 1, none⟩ = some (.int .i64 x.known) := fun W h => HK.out W (hC1.trans (h.mono hC1.size))
          have HK8 := Lib.hid hk8
          clear hR2 hk8
          go_wp2_with fail
          go_cut [19, 20] (fun c19 c20 W => ∃ B, c19 = .pointer (some ⟨B, 0, none⟩) ∧ c20 = .int .i64 gb ∧ Blk W B (cR rb).toArray 26 ∧ RowKit.Below w8.heap.size w8 W)
          case first =>
            clear HR1 HR2 HTu HTl Hok Hdiff Hall Hra Hrb HR1' HR2' HK kN k0 hM hBr hBw hlt hB3 hp hlx kA1 hC1
            rename_i k1 k2 j1 j2 j3 j4
            clear_value z2
            clear kk z4 k2
            clear hf1 hf2 hu1 hu2 h1 h4 h5 ht0 ht1 ht2 q1 q2
            go_region_held3 (fun w' => w'.cell? ⟨bN, k, none⟩ = some (.int .i64 t) ∧ w'.cell? ⟨bx, 1, none⟩ = some (.int .i64 x.known))
              (((with_reducible refine HK8.out _ ?_); repeat (first | (with_reducible assumption) | (with_reducible exact Below.refl _ _) | (with_reducible refine Below.alloc ?_ ?_ _) | (with_reducible refine Below.setCell ?_ ?_ _) | (with_reducible refine Below.drew ?_) | omega | (simp <;> omega) | (dsimp only; omega))))
              (first
                | (go_at_call 17; (with_reducible refine (HR3.out _ (by repeat (first | (with_reducible assumption) | (with_reducible exact Below.refl _ _) | (with_reducible refine Below.alloc ?_ ?_ _) | (with_reducible refine Below.setCell ?_ ?_ _) | (with_reducible refine Below.drew ?_) | omega | (simp <;> omega) | (dsimp only; omega)))).mono ?_); rintro e w7 ⟨rfl, hB7, hb7⟩; have hs7 := hb7.size; (first | (have kA := ((Blk.new w8 26 #[.int .i64 0, .int .i64 0, .int .i64 0, .string ⟨#[]⟩, .int .i64 0, .int .i64 0, .int .i64 0, .int .i64 0, .int .i64 0]).drew).below' hB7; have kAc := kA.cell; have kAf := kA.frozen; have kAl := kA.lt) | skip))
                | fail)
            · rename_i hSx
              clear hSx
              go_wp2_with fail
              go_meet
              exact ⟨_, rfl, rfl, Blk.new _ _ _, hb7.alloc hs7 _⟩
            · rename_i hSx
              clear hSx
              go_wp2_with fail
              go_meet
              exact ⟨_, rfl, rfl, rateSet kA rb, belowSet hb7 (Nat.le_refl _) rb⟩
          case rest =>
            obtain ⟨B2, rfl, rfl, kA2, hC2⟩ := hcut
            have hC := hC1.trans (hC2.mono hC1.size)
            have kA1 := kA1.below' hC2
            have hCB := hBr.trans (hC.mono hBr.size)
            have k0c := k0.below' hC
            have cN := (HK.out _ hC).1
            have c1 := kA1.cell
            have c2 := kA2.cell
            have c0 := k0c.cell
            have hq := eqR ra rb
            have hsame : (ok = false → ra = rb ∧ ga = gb) ∧ (ok = true → 0 < k → ¬ (ra = rb ∧ ga = gb)) ∧ (¬ (ra = rb ∧ ga = gb) → f ≤ t ∧ t ≤ u ∧ (x.of_ = 0 → x.from_ ≤ t)) := by
              have hq1 := Hall.out t (by omega) (by omega)
              rw [← Hra.out, ← Hrb.out] at hq1
              refine ⟨fun h => by simpa using hq1.1 h, fun h hk0 e => ?_, fun h => hq1.2 (by simpa using h)⟩
              obtain ⟨d1, d2⟩ := Hdiff.out h
              have e2 : rateOf xs goods t x.known = rateOf (xs ++ [x]) goods t x.known := by rw [← Hra.out, ← Hrb.out, e.1, e.2]
              have : k = 1 ∨ k = 2 := by omega
              rcases this with q | q
              · rw [ht1 q] at e2; exact d1 e2
              · rw [ht2 q] at e2; exact d2 e2
            obtain ⟨hs1, hs2, hs3⟩ := hsame
            have hfin : ∀ q, RowKit.Below W3.heap.size W3 (wc.drewN q) := fun q => below_drewN' hCB q
            have Hfin := Lib.hid hfin
            clear hfin ht0 ht1 ht2 kA1 kA2 k0c hC1 hC2 hC hCB kN k0 hM hBr hBw
            have hcs : (ok = false ∧ ra = rb ∧ ga = gb) ∨ (ok = true ∧ k = 0 ∧ ra = rb ∧ ga = gb) ∨ (ok = true ∧ ¬ (ra = rb ∧ ga = gb) ∧ f ≤ t ∧ t ≤ u ∧ (x.of_ = 0 → x.from_ ≤ t)) := by
              by_cases e : ra = rb ∧ ga = gb
              · cases ok with
                | false => exact .inl ⟨rfl, e⟩
                | true =>
                  by_cases hk0 : 0 < k
                  · exact absurd e (hs2 rfl hk0)
                  · exact .inr (.inl ⟨rfl, by omega, e⟩)
              · cases ok with
                | false => exact absurd (hs1 rfl) e
                | true => exact .inr (.inr ⟨rfl, e, hs3 e⟩)
            clear hs1 hs2 hs3 Hok Hall Hdiff HR1 HR2 HTu HTl HR1' HR2' HR3 HK HK8 hp Hra Hrb hlx hB3
            have v0 : decide (t < 0) = false := decide_eq_false (by omega)
            rcases hcs with ⟨rfl, rfl, rfl⟩ | ⟨rfl, hk0, rfl, rfl⟩ | ⟨rfl, hne, hft, htu, hfr⟩
            · as_aux_lemma =>
                have b1 : decide (ra = ra) = true := by simp
                have b2 : (ga == ga) = true := by simp
                by_cases hof : x.of_ = 0
                · have b3 : (x.of_ == 0) = true := by simpa using hof
                  have Hof := Lib.hid hof; clear hof
                  go_wp2_with fail
                  go_quiet (fail)
                  go_wp2_with fail
                  go_roundw
                  case rel => first | exact ⟨k + 1, by omega, by go_num, Hfin.out _⟩ | ((repeat apply Exists.intro); exact ⟨⟨k + 1, by omega, by go_num, Hfin.out _⟩, rfl⟩)
                  case measure => simp [intOf]; omega
                · have b3 : (x.of_ == 0) = false := by simpa using hof
                  have Hof := Lib.hid hof; clear hof
                  go_wp2_with fail
                  go_quiet (fail)
                  go_wp2_with fail
                  go_roundw
                  case rel => first | exact ⟨k + 1, by omega, by go_num, Hfin.out _⟩ | ((repeat apply Exists.intro); exact ⟨⟨k + 1, by omega, by go_num, Hfin.out _⟩, rfl⟩)
                  case measure => simp [intOf]; omega
            · as_aux_lemma =>
                have b1 : decide (ra = ra) = true := by simp
                have b2 : (ga == ga) = true := by simp
                have u0 : decide ((0 : Int) < (k : Int)) = false := decide_eq_false (by omega)
                have u1 : decide (0 < k) = false := decide_eq_false (by omega)
                have u2 : ¬ 0 < k := by omega
                clear hk0
                by_cases hof : x.of_ = 0
                · have b3 : (x.of_ == 0) = true := by simpa using hof
                  have Hof := Lib.hid hof; clear hof
                  go_wp2_with fail
                  go_quiet (fail)
                  go_wp2_with fail
                  go_roundw
                  case rel => first | exact ⟨k + 1, by omega, by go_num, Hfin.out _⟩ | ((repeat apply Exists.intro); exact ⟨⟨k + 1, by omega, by go_num, Hfin.out _⟩, rfl⟩)
                  case measure => simp [intOf]; omega
                · have b3 : (x.of_ == 0) = false := by simpa using hof
                  have Hof := Lib.hid hof; clear hof
                  go_wp2_with fail
                  go_quiet (fail)
                  go_wp2_with fail
                  go_roundw
                  case rel => first | exact ⟨k + 1, by omega, by go_num, Hfin.out _⟩ | ((repeat apply Exists.intro); exact ⟨⟨k + 1, by omega, by go_num, Hfin.out _⟩, rfl⟩)
                  case measure => simp [intOf]; omega
            · as_aux_lemma =>
                have w1 : decide (t < f) = false := decide_eq_false (by omega)
                have w2 : decide (u < t) = false := decide_eq_false (by omega)
                have hd : decide (ra = rb) = false ∨ (decide (ra = rb) = true ∧ (ga == gb) = false) := by
                  by_cases e : ra = rb
                  · exact .inr ⟨by simpa using e, by simpa using fun e2 => hne ⟨e, e2⟩⟩
                  · exact .inl (by simpa using e)
                clear hne
                rcases hd with b1 | ⟨b1, b2⟩
                all_goals
                  by_cases hk0 : 0 < k
                  all_goals
                    first | have u0 : decide ((0 : Int) < (k : Int)) = true := decide_eq_true (by omega) | (have u0 : decide ((0 : Int) < (k : Int)) = false := (decide_eq_false (by omega)); have u1 : decide (0 < k) = false := (decide_eq_false (by omega)))
                    by_cases hof : x.of_ = 0
                    · have b3 : (x.of_ == 0) = true := by simpa using hof
                      have b4 : decide (t < x.from_) = false := decide_eq_false (by have := hfr hof; omega)
                      have Hof := Lib.hid hof; clear hof hfr
                      go_wp2_with fail
                      go_quiet (fail)
                      go_wp2_with fail
                      go_roundw
                      case rel => first | exact ⟨k + 1, by omega, by go_num, Hfin.out _⟩ | ((repeat apply Exists.intro); exact ⟨⟨k + 1, by omega, by go_num, Hfin.out _⟩, rfl⟩)
                      case measure => simp [intOf]; omega
                    · have b3 : (x.of_ == 0) = false := by simpa using hof
                      have Hof := Lib.hid hof; clear hof hfr
                      go_wp2_with fail
                      go_quiet (fail)
                      go_wp2_with fail
                      go_roundw
                      case rel => first | exact ⟨k + 1, by omega, by go_num, Hfin.out _⟩ | ((repeat apply Exists.intro); exact ⟨⟨k + 1, by omega, by go_num, Hfin.out _⟩, rfl⟩)
                      case measure => simp [intOf]; omega
      · obtain rfl : k = 3 := by omega
        have e0 := k0.cell
        as_aux_lemma =>
          clear hlt kN hM Hok Hall Hdiff
          by_cases q1 : hour < 1
          · go_wp2_with (go_at_call 16; refine (hp _).mono ?_; rintro e w5 ⟨rfl, hB5⟩)
            go_ret
            exact ⟨rfl, hBw.trans (hB5.mono hBw.size)⟩
          by_cases q2 : 1000000 < hour
          · go_wp2_with (go_at_call 16; refine (hp _).mono ?_; rintro e w5 ⟨rfl, hB5⟩)
            go_ret
            exact ⟨rfl, hBw.trans (hB5.mono hBw.size)⟩
          have hR1 := HR1.out hour wr hBw
          have hR2 := fun W hB => HR1.out (hour - 1) W hB
          have hTl := HTl.out hour
          have hTu := fun W hB => HTu.out W hB
          generalize rateOf xs goods hour x.known = r1 at *
          generalize rateOf xs goods (hour - 1) x.known = r2 at *
          obtain ⟨ra, ga⟩ := r1
          obtain ⟨rb, gb⟩ := r2
          dsimp only at hR1 hR2 hTl
          generalize turnsOf xs goods x.known = ts at *
          have HT := Lib.hid hTl
          clear hTl
          go_wp2_with (fail)
          refine hR1.mono ?_
          clear hR1
          rintro e w4 ⟨rfl, hB4⟩
          have kA := Blk.new w4 26 (cR ra).toArray
          have hB5 : RowKit.Below wr.heap.size wr (w4.alloc (.cells (cR ra).toArray 26)) := hB4.alloc hB4.size _
          have k0 := k0.below' hB5
          have hB6 := hBw.trans (hB5.mono hBw.size)
          have hR3 := hR2 _ hB6
          clear hR2 e0 hB4 hB5
          have e0 := k0.cell
          go_wp2_with (fail)
          refine hR3.mono ?_
          clear hR3
          rintro e w5 ⟨rfl, hB7⟩
          have kB := Blk.new w5 26 (cR rb).toArray
          have hz : RowKit.Below w5.heap.size w5 (w5.alloc (.cells (cR rb).toArray 26)) := (Below.refl _ w5).alloc (Nat.le_refl _) _
          have kA := (kA.below' hB7).below' hz
          have k0 := (k0.below' hB7).below' hz
          have hB8 := hB6.trans (hB7.mono hB6.size)
          have hB9 := hB8.trans (hz.mono hB8.size)
          have hT3 := hTu _ hB9
          have lA := kA.lt
          clear hTu e0 hB7 hz hB8 hB6
          have e0 := k0.cell
          go_wp2_with (fail)
          refine hT3.mono ?_
          clear hT3
          rintro e w6 ⟨v, rfl, ho, hBt⟩
          rw [← flat_int] at ho
          obtain ⟨av, cv, rfl, _, hl⟩ := Lst.of_owns (k := 1) (enc := cI) (fun _ => rfl) (by omega) ho rfl
          have kA := kA.below' hBt
          have kB := kB.below' hBt
          have hB10 := hB9.trans (hBt.mono hB9.size)
          obtain ⟨T, hTn⟩ : ∃ T, T = ts.length := ⟨_, rfl⟩
          rw [← hTn] at hl ⊢
          have HTn := Lib.hid hTn
          have hmv : cv ≤ 9223372036854775807 := by have := hl.max; unfold maxLen at this; omega
          have hlv := hl.le
          obtain ⟨bA, hbA⟩ : ∃ bA, bA = w4.heap.size := ⟨_, rfl⟩
          obtain ⟨bB, hbB⟩ : ∃ bB, bB = w5.heap.size := ⟨_, rfl⟩
          rw [← hbA] at kA ⊢
          rw [← hbB] at kB ⊢
          clear ho hTn hB9 hBt e0 lA hbA hbB
          go_wp2_with (fail)
          go_loop [27, 28] (fun tn i => ∃ j : Nat, j ≤ T ∧ i = .int .i64 j ∧ tn = .bool (decide (hour ∈ ts.take j))) (fun _ i => T - (intOf i).toNat)
          case atStart => exact ⟨0, Nat.zero_le _, rfl, by simp⟩
          case round =>
            obtain ⟨j, hj, rfl, rfl⟩ := hrel
            by_cases hlt : j < T
            · have hltz : (j : Int) < (T : Int) := by omega
              obtain ⟨p, hpj⟩ : ∃ p, ts[j]? = some p := ⟨ts[j]'(by rw [← HTn.out]; exact hlt), by simp⟩
              obtain ⟨bb, off, rfl, hbb, hrg⟩ := hl.at_ j p hpj
              have c0 := hrg 0 _ rfl
              simp only [Nat.mul_one, Nat.add_zero] at c0
              have hsn : decide (hour ∈ ts.take (j + 1)) = (decide (hour ∈ ts.take j) || decide (hour = p)) := by
                obtain ⟨h1, h2⟩ := List.getElem?_eq_some_iff.1 hpj
                rw [List.take_succ_eq_append_getElem h1, h2, Bool.eq_iff_iff]
                simp
              have Hsn := Lib.hid hsn
              clear hrg hpj hsn
              generalize decide (hour ∈ ts.take j) = tn at *
              cases tn with
              | true =>
                go_wp2
                go_round
                case rel => exact ⟨j + 1, by omega, by go_num, by rw [Hsn.out]; rfl⟩
                case measure => simp [intOf]; omega
              | false =>
                by_cases hph : p = hour
                · have b1 : (p == hour) = true := by simpa using hph
                  have Hph := Lib.hid hph; clear hph
                  go_wp2
                  go_round
                  case rel => exact ⟨j + 1, by omega, by go_num, by rw [Hsn.out, decide_eq_true Hph.out.symm]; rfl⟩
                  case measure => simp [intOf]; omega
                · have b1 : (p == hour) = false := by simpa using hph
                  have Hph := Lib.hid hph; clear hph
                  go_wp2
                  go_round
                  case rel => exact ⟨j + 1, by omega, by go_num, by rw [Hsn.out, decide_eq_false (fun e => Hph.out e.symm)]; rfl⟩
                  case measure => simp [intOf]; omega
            · obtain rfl : j = T := by omega
              rw [List.take_of_length_le (by rw [← HTn.out]; exact Nat.le_refl _)]
              have hT := HT.out
              by_cases e1 : ra.id = rb.id
              · have b1 : (ra.id != rb.id) = false := by simpa using e1
                by_cases e2 : ga = gb
                · have b2 : (ga != gb) = false := by simpa using e2
                  have b3 : decide (hour ∈ ts) = false := decide_eq_false (fun h => by rcases hT.1 h with h | h; exact h e1; exact h e2)
                  rw [b3]
                  have H1 := Lib.hid e1
                  have H2 := Lib.hid e2
                  clear e1 e2 hT b3 hlt
                  go_wp2_with (fail)
                  refine (hp _).mono ?_
                  rintro e w7 ⟨rfl, hBp⟩
                  have cA := (kA.below' hBp).cell
                  have cB := (kB.below' hBp).cell
                  go_wp2_with (fail)
                  go_ret
                  exact ⟨rfl, hB10.trans (hBp.mono hB10.size)⟩
                · have b2 : (ga != gb) = true := by simpa using e2
                  have b3 : decide (hour ∈ ts) = true := decide_eq_true (hT.2 (.inr e2))
                  rw [b3]
                  have H1 := Lib.hid e1
                  have H2 := Lib.hid e2
                  clear e1 e2 hT b3 hlt
                  go_wp2_with (fail)
                  refine (hp _).mono ?_
                  rintro e w7 ⟨rfl, hBp⟩
                  have cA := (kA.below' hBp).cell
                  have cB := (kB.below' hBp).cell
                  go_wp2_with (fail)
                  go_ret
                  exact ⟨rfl, hB10.trans (hBp.mono hB10.size)⟩
              · have b1 : (ra.id != rb.id) = true := by simpa using e1
                have b3 : decide (hour ∈ ts) = true := decide_eq_true (hT.2 (.inl e1))
                rw [b3]
                have H1 := Lib.hid e1
                clear e1 hT b3 hlt
                go_wp2_with (fail)
                refine (hp _).mono ?_
                rintro e w7 ⟨rfl, hBp⟩
                have cA := (kA.below' hBp).cell
                have cB := (kB.below' hBp).cell
                go_wp2_with (fail)
                go_ret
                exact ⟨rfl, hB10.trans (hBp.mono hB10.size)⟩
  · have hto : touchedOf xs x goods = ((0, 0, false), (appendRate xs x).2) := by unfold touchedOf; rw [if_neg h0]
    rw [hto] at hT
    generalize (appendRate xs x).1 = ml at *
    generalize (appendRate xs x).2 = er at *
    have g0 : (er != 0) = true := by simpa using h0
    have g1 : (er == er) = true := by simp
    clear h0 hto hL
    go_enter Tryz.func6, Tryz.ntmps6
    go_wp2_with (first | (go_at_call 15; (with_reducible refine hf.mono ?_); rintro e w5 ⟨rfl, rfl⟩) | fail)
    have k0 := Blk.new w 26 #[.int .i64 x.id, .int .i64 x.known, .int .i64 x.from_, .string x.goods, .int .i64 x.finder.num, .int .i64 x.finder.den, .int .i64 x.cart, .int .i64 x.store, .int .i64 x.of_]
    refine (hA _ hB0).mono ?_
    clear hA
    rintro e w1 ⟨v, rfl, ho, hB1⟩
    have k0 := k0.below' hB1
    have hB1 := hB0.trans (hB1.mono hB0.size)
    have e0 := k0.cell
    clear ho
    go_wp2_with (fail)
    refine (hT _ hB1).mono ?_
    clear hT
    rintro e w2 ⟨rfl, hB2⟩
    have hB2 := hB1.trans (hB2.mono hB1.size)
    dsimp only
    go_wp2_with (fail)
    refine (hp _).mono ?_
    rintro e w7 ⟨rfl, hBp⟩
    go_wp2_with (fail)
    go_ret
    exact ⟨rfl, hB2.trans (hBp.mono hB2.size)⟩

end Go.Proofs.YtollegoajlfdiaaGreat
