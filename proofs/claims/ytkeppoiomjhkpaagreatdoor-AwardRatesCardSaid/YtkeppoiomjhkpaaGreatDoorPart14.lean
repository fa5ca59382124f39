import Derived.Test.YtkeppoiomjhkpaaGreatDoorPart13
import Derived.BigQuiet
import Derived.BigRegion
import Derived.Shelf.LaysM
import Derived.Shelf.LaysC
import Derived.Shelf.Strconv.Itoa3
import Derived.Shelf.Strconv.AtoiAll
import Derived.Shelf.Strings.Split
import Derived.Shelf.Strings.OnBuilder
import Derived.Test.YtkeppoiomjhkpaaGreatDoorProg
import Derived.Test.YtkeppoiomjhkpaaGreatDoorPart12
import Derived.Lib.ItoaLen
import Derived.Lib.AppendIntMem
/-
  Walk: the counting sale of a parcel.
-/
namespace Go.Proofs.YtkeppoiomjhkpaaGreatDoor
open Go.RowKit Lg Go.Sort Go.Shelf

attribute [local go_sem] Oper.semAt_some

theorem setAll_zeroS (z : Sale) : setAll #[.int .i64 0, .int .i64 0, .int .i64 0, .int .i64 0, .int .i64 0, .int .i64 0, .int .i64 0, .int .i64 0, .int .i64 0] 0 (cS z) = (cS z).toArray := by kernel_rfl

/-- What holds between two rounds of the search. -/
def SP (w : World) (parcel : Int) (W2 : World) (pre : List Sale) (W : World) : Prop :=
  Blk W w.heap.size #[.int .i64 parcel] 3 ∧ Blk W (w.heap.size + 1) #[.int .i64 0, .int .i64 0, .int .i64 0, .int .i64 0, .int .i64 0, .int .i64 0, .int .i64 0, .int .i64 0, .int .i64 0] 24 ∧ Blk W (w.heap.size + 1 + 1) #[.bool false] 4 ∧
    Below w.heap.size w W ∧ W2.heap.size ≤ W.heap.size ∧ pre.find? (fun x => decide (x.parcel = parcel)) = none
/-- What holds where it has found one. -/
def SX (w : World) (parcel : Int) (W2 : World) (c : Code) (pre : List Sale) (W : World) : Prop :=
  c = .ret ∧ ∃ x, Blk W (w.heap.size + 1) (cS x).toArray 24 ∧ Blk W (w.heap.size + 1 + 1) #[.bool true] 4 ∧
    Below w.heap.size w W ∧ W2.heap.size ≤ W.heap.size ∧ pre.find? (fun x => decide (x.parcel = parcel)) = some x

theorem results_cell_cellB {P : Program} {fn : Func} {p q : Tmp} {ty tb : TypeId} (h : fn.results = #[.cell p ty, .cell q tb]) (tmps : Array Value) (w : World) (g g2 : Nat) (T _T2 : TypeId) (cs : List Value) (d : TypeDesc) (b : Bool)
    (hp : tmps.getD p undef = .pointer (some ⟨g, 0, none⟩)) (hg : Blk w g cs.toArray T) (hu : P.underlying ty = some d) (hd : d.isRow = true) (hi : (P.info? ty).map (·.size) = some cs.length)
    (hq : tmps.getD q undef = .pointer (some ⟨g2, 0, none⟩)) (hl : (loadVar tb ⟨g2, 0, none⟩).run P w = .ok (.bool b) w) :
    (results fn tmps).run P w = .ok (.tuple #[.agg cs.toArray, .bool b]) w := by
  have hp' : tmps[p]?.getD undef = .pointer (some ⟨g, 0, none⟩) := by simpa using hp
  have hq' : tmps[q]?.getD undef = .pointer (some ⟨g2, 0, none⟩) := by simpa using hq
  simp [results, h, hp', hq', asAddr, run_loadVar_blk w g T ty cs d hg hu hd hi, hl]

theorem loadB {w : World} {g : Nat} {b : Bool} (h : Blk w g #[.bool b] 4) : (loadVar 4 ⟨g, 0, none⟩).run Tryz.prog w = .ok (.bool b) w := by
  have c := h.cell 0
  have a := Tryz.isAgg4
  have z := Tryz.sizeOf4
  have u := Tryz.underlying4
  unfold loadVar
  simp [go_sem, c, a, z]

theorem soldRet (xs : List Sale) (parcel known : Int) (w : World) (D : Nat) (hD : w.heap.size + 5 ≤ D) (W1 : World) (r : Sale) (ok : Bool) (tm : Array Value) (hb1 : Blk W1 (w.heap.size + 1) (cS r).toArray 24) (hb2 : Blk W1 (w.heap.size + 1 + 1) #[.bool ok] 4)
    (hK1 : W1.heap[D]? = some (.deferred (some []))) (hB1 : Below w.heap.size w W1) (hfr : soldPair (soldIn xs parcel known) = (r, ok)) (h6 : tm.getD 6 undef = .pointer (some ⟨w.heap.size + 1, 0, none⟩)) (h7 : tm.getD 7 undef = .pointer (some ⟨w.heap.size + 1 + 1, 0, none⟩)) :
    bodyPostM Fence.wide 3 Tryz.prog Tryz.f80 (Gives w (.tuple #[aS (soldPair (soldIn xs parcel known)).1, .bool (soldPair (soldIn xs parcel known)).2])) .ret { tmps := tm, defers := [{ target := .collected D, args := #[] }] } W1 := by
  refine ⟨by simp, .inl ⟨_, _, rfl, run_takeDeferred hK1, ?_⟩⟩
  refine ⟨_, results_cell_cellB rfl tm _ (w.heap.size + 1) (w.heap.size + 1 + 1) 24 4 (cS r) _ ok h6 (hb1.putObj _ (by omega)) Tryz.underlying24 rfl (by kernel_rfl) h7 (loadB (hb2.putObj _ (by omega))), ?_⟩
  rw [hfr]
  exact ⟨rfl, hB1.trans (belowK_b (w := w) (Nat.le_refl _) W1 D _ _ (by omega) hK1 rfl rfl)⟩

set_option maxRecDepth 100000 in
set_option maxHeartbeats 1600000 in
theorem sold_any (a : Option Addr) (m cap : Nat) (xs : List Sale) (parcel known : Int) (w : World) (hL : Lst w 9 cS a m cap xs) :
    Calls Tryz.prog 80 #[.slice a m cap, .int .i64 parcel, .int .i64 known] w (Gives w (.tuple #[aS (soldPair (soldIn xs parcel known)).1, .bool (soldPair (soldIn xs parcel known)).2])) := by
  refine (callsIn_wide (n := 3)).1 ?_
  have hw91 : Fence.wide.fn 119 := trivial
  refine callsIn_of_wp_marks Tryz.func80 rfl trivial ?_ rfl
  simp only [Tryz.ntmps80, List.size_toArray, List.length_cons, List.length_nil, Nat.reduceAdd, Nat.reduceSub, Array.replicate_succ, Array.replicate_zero, List.push_toArray, List.append_toArray, List.nil_append, List.cons_append]
  gi_wp2_with (gi_at_call 119; refine (callsIn_wide.2 (countingS_any _ _ _ _ _)).mono ?_; rintro e w' ⟨rfl, rfl⟩)
  obtain ⟨W0, hW0⟩ : ∃ W0, W0 = ((w.alloc (.cells #[.int .i64 parcel] 3)).alloc (.cells #[.int .i64 0, .int .i64 0, .int .i64 0, .int .i64 0, .int .i64 0, .int .i64 0, .int .i64 0, .int .i64 0, .int .i64 0] 24)).alloc (.cells #[.bool false] 4) := ⟨_, rfl⟩
  rw [← hW0]
  obtain ⟨W2, hW2⟩ : ∃ W2, W2 = (W0.alloc (.cells #[.slice a m cap] 22)).alloc (.cells #[.int .i64 known] 3) := ⟨_, rfl⟩
  rw [← hW2]
  have hsz0 : W0.heap.size = w.heap.size + 1 + 1 + 1 := by rw [hW0]; simp
  have hsz2 : W2.heap.size = w.heap.size + 5 := by rw [hW2]; simp [hsz0]
  have j1 := Blk.new w 3 #[.int .i64 parcel]
  have j2 := Blk.new (w.alloc (.cells #[.int .i64 parcel] 3)) 24 #[.int .i64 0, .int .i64 0, .int .i64 0, .int .i64 0, .int .i64 0, .int .i64 0, .int .i64 0, .int .i64 0, .int .i64 0]
  have j3 := Blk.new ((w.alloc (.cells #[.int .i64 parcel] 3)).alloc (.cells #[.int .i64 0, .int .i64 0, .int .i64 0, .int .i64 0, .int .i64 0, .int .i64 0, .int .i64 0, .int .i64 0, .int .i64 0] 24)) 4 #[.bool false]
  simp only [World.size_alloc] at j2 j3
  have hB0 : Below w.heap.size w W0 := hW0 ▸ (((Below.refl _ w).alloc (Nat.le_refl _) _).alloc (by simp) _).alloc (by simp; omega) _
  have hB2 : Below w.heap.size w W2 := hW2 ▸ (hB0.alloc hB0.size _).alloc (by simp; omega) _
  have k1 : Blk W2 w.heap.size #[.int .i64 parcel] 3 := by rw [hW2, hW0]; exact (((j1.alloc _).alloc _).alloc _).alloc _
  have k2 : Blk W2 (w.heap.size + 1) #[.int .i64 0, .int .i64 0, .int .i64 0, .int .i64 0, .int .i64 0, .int .i64 0, .int .i64 0, .int .i64 0, .int .i64 0] 24 := by rw [hW2, hW0]; exact ((j2.alloc _).alloc _).alloc _
  have k3 : Blk W2 (w.heap.size + 1 + 1) #[.bool false] 4 := by rw [hW2, hW0]; exact (j3.alloc _).alloc _
  have hst := countingS_stops 2 (by omega) a m cap xs known W0 W2 hW2 (hL.below hB0)
  clear j1 j2 j3 hW0 hW2 hB0
  rw [hsz0] at hst
  clear hsz0
  have hSlt : ∀ k, (k = w.heap.size + 1 + 1 + 1 ∨ k = w.heap.size + 1 + 1 + 1 + 1 ∨ (xs ≠ [] ∧ ∃ off, a = some ⟨k, off, none⟩)) → k < W2.heap.size := by
    rintro k (rfl | rfl | ⟨hne, off, ha⟩)
    · omega
    · omega
    · obtain ⟨x, xs', rfl⟩ := List.exists_cons_of_ne_nil hne
      obtain ⟨b, off', ha', hlt, _⟩ := hL.at_ 0 x rfl
      rw [ha] at ha'; cases ha'; omega
  refine wpIn_rangeFunc_ownH rfl (by omega) (gf := 149) rfl trivial (enters_of Tryz.func149 (by kernel_rfl) rfl) hst (fun h k => KpOn.trans h k) ?hKb (Below.refl _ _) (fun _ => rfl)
    (SP w parcel W2) (SX w parcel W2)
    ?hI ?hIx ⟨k1, k2, k3, hB2, Nat.le_refl _, rfl⟩
    (fun x a' W => ∃ Bx, W2.heap.size ≤ Bx ∧ Blk W Bx #[.int .i64 x.id, .int .i64 x.known, .int .i64 x.hour, .int .i64 x.parcel, .int .i64 x.price, .int .i64 x.carter, .int .i64 x.keeper, .int .i64 x.since, .int .i64 x.of_] 24 ∧ a' = { tmps := #[.slice a m cap, .int .i64 parcel, .int .i64 known, undef, .pointer (some ⟨w.heap.size, 0, none⟩), undef, .pointer (some ⟨w.heap.size + 1, 0, none⟩), .pointer (some ⟨w.heap.size + 1 + 1, 0, none⟩), .pointer (some ⟨Bx, 0, none⟩), .slice a m cap, .int .i64 known, .func (.func 149) #[] #[.pointer (some ⟨w.heap.size + 1 + 1 + 1, 0, none⟩), .pointer (some ⟨w.heap.size + 1 + 1 + 1 + 1, 0, none⟩)], aS x, undef, undef, undef, undef, undef, undef], defers := [] })
    (fun x a' s A B row hs hg hr => hs.imp fun Bx h => ⟨h.1, h.2.1.own hg hr, h.2.2⟩) ?assign ?body ?done ?stop
  case hKb =>
    intro W l o o' hl ho hc hk
    refine ⟨by simp, fun k hS => World.putObj_heap_other (fun e => ?_)⟩
    have := hSlt k hS
    omega
  case hI =>
    rintro pre A B row ⟨h1, h2, h3, hB, hs, hf⟩ hg hr
    exact ⟨h1.own hg hr, h2.own hg hr, h3.own hg hr, hB.grown hg hB.size (fun k e => by have := (hr k e).1; omega), Nat.le_trans hs hg.size, hf⟩
  case hIx =>
    rintro c pre A B row ⟨hc, x, h2, h3, hB, hs, hf⟩ hg hr
    exact ⟨hc, x, h2.own hg hr, h3.own hg hr, hB.grown hg hB.size (fun k e => by have := (hr k e).1; omega), Nat.le_trans hs hg.size, hf⟩
  case assign =>
    rintro l pre x W K ⟨h1, h2, h3, hB, hs, hf⟩ hK
    gi_wp2
    exact hK _ _ ((KeepsOthers.alloc _ _).from _) ⟨by simp, fun k hS => Below.heap_alloc _ _ _ (by have := hSlt k hS; omega)⟩ ⟨h1.alloc _, h2.alloc _, h3.alloc _, hB.alloc hB.size _, by simp; omega, hf⟩ ⟨W.heap.size, hs, Blk.new _ _ _, rfl⟩
  case body =>
    rintro l pre x a' W hl ⟨r, hr⟩ ⟨h1, h2, h3, hB, hs, hf⟩ ⟨Bx, hBx, bX, rfl⟩ hlt
    have c1 := h1.cell
    have f2 := h2.frozen
    have f3 := h3.frozen
    have c2 := h2.cell
    have c3 := h3.cell
    have cX := bX.cell
    have Hst := Lib.hid hst; clear hst k1 k2 k3
    have HSlt := Lib.hid hSlt; clear hSlt
    have Hf := Lib.hid hf; clear hf
    by_cases hp : x.parcel = parcel
    · have g1 : (x.parcel == parcel) = true := by simpa using hp
      have Hp := Lib.hid hp; clear hp
      gi_wp2
      have hb1 : Blk ((W.setCells (w.heap.size + 1) 0 (cS x)).setCell ⟨w.heap.size + 1 + 1, 0, none⟩ (.bool true)) (w.heap.size + 1) (cS x).toArray 24 := by
        refine Blk.setCell_other ?_ (by omega) _ _
        rw [← setAll_zeroS]; exact h2.setCells 0 _
      have hb2 : Blk ((W.setCells (w.heap.size + 1) 0 (cS x)).setCell ⟨w.heap.size + 1 + 1, 0, none⟩ (.bool true)) (w.heap.size + 1 + 1) #[.bool true] 4 :=
        (h3.setCells_other (by omega) _ _).setCell 0 _
      have hb3 : Below w.heap.size w ((W.setCells (w.heap.size + 1) 0 (cS x)).setCell ⟨w.heap.size + 1 + 1, 0, none⟩ (.bool true)) := (below_setCells hB (by omega) _ _).setCell (p := ⟨w.heap.size + 1 + 1, 0, none⟩) (by simp; omega) _
      exact ⟨((keepsOthers_setCells W (w.heap.size + 1) 0 (cS x)).trans (KeepsOthers.setCell _ _ _)).from _, rfl, x, hb1, hb2, hb3, by simp [World.setCell]; exact hs, by rw [List.find?_append, Hf.out]; simp [Hp.out]⟩
    · have g1 : (x.parcel == parcel) = false := by simpa using hp
      have Hp := Lib.hid hp; clear hp
      gi_wp2
      exact ⟨(KeepsOthers.refl W).from _, KpOn.refl _ _, h1, h2, h3, hB, hs, by rw [List.find?_append, Hf.out]; simp [Hp.out]⟩
  case done =>
    rintro D ys W hD rfl ⟨h1, h2, h3, hB, hs, hf⟩ hK
    have hfr : soldPair (soldIn xs parcel known) = (zeroSale, false) := by unfold soldIn; rw [hf]; rfl
    have Hst := Lib.hid hst; clear hst k1 k2 k3
    have HSlt := Lib.hid hSlt; clear hSlt
    have f2 := h2.frozen
    have f3 := h3.frozen
    have c2 := h2.cell
    have c3 := h3.cell
    have hret := soldRet xs parcel known w D (by omega)
    have Hfr := Lib.hid hfr
    have Hf := Lib.hid hf; clear hf hfr
    have Hret := Lib.hid hret; clear hret
    gi_wp2
    have hset : setAll #[.int .i64 0, .int .i64 0, .int .i64 0, .int .i64 0, .int .i64 0, .int .i64 0, .int .i64 0, .int .i64 0, .int .i64 0] 0 (cS zeroSale) = #[.int .i64 0, .int .i64 0, .int .i64 0, .int .i64 0, .int .i64 0, .int .i64 0, .int .i64 0, .int .i64 0, .int .i64 0] := by kernel_rfl
    refine Hret.out ((W.setCells (w.heap.size + 1) 0 (cS zeroSale)).setCell ⟨w.heap.size + 1 + 1, 0, none⟩ (.bool false)) zeroSale false _ ?_ ((h3.setCells_other (by omega) _ _).setCell 0 _) ((setCells_heap W (w.heap.size + 1) 0 (cS zeroSale) D (by omega) |> fun h => (Below.heap_setCell _ ⟨w.heap.size + 1 + 1, 0, none⟩ _ D (by simp; omega)).trans (h.trans hK))) ((below_setCells hB (by omega) _ _).setCell (p := ⟨w.heap.size + 1 + 1, 0, none⟩) (by simp; omega) _) Hfr.out rfl rfl
    refine Blk.setCell_other ?_ (by omega) _ _
    have := h2.setCells 0 (cS zeroSale)
    rw [hset] at this
    exact this
  case stop =>
    rintro D c pre W hD hpre ⟨rfl, x, h2, h3, hB, hs, hf⟩ hK
    have hfr : soldPair (soldIn xs parcel known) = (x, true) := by
      obtain ⟨t, ht⟩ := hpre
      unfold soldIn; rw [← ht, List.find?_append, hf]; rfl
    have Hst := Lib.hid hst; clear hst k1 k2 k3
    have HSlt := Lib.hid hSlt; clear hSlt
    have hret := soldRet xs parcel known w D (by omega)
    have Hfr := Lib.hid hfr
    have Hf := Lib.hid hf; clear hf hfr
    have Hret := Lib.hid hret; clear hret
    gi_wp2
    exact Hret.out W x true _ h2 h3 hK hB Hfr.out rfl rfl

end Go.Proofs.YtkeppoiomjhkpaaGreatDoor

/-
  DERIVED: THE SHELF's CONTRACTS AT THIS DUMP, IN PLAIN WORDS (tools/lay-plain.mjs out of 'YtkeppoiomjhkpaaGreatDoorShd.lean', which tools/lay-shelf.mjs wrote): THE SAME DECLARATIONS UNDER THE SAME NAMES: 'import', 'namespace', 'open', 'def', 'theorem' AND NOTHING ELSE: no command of the shelf's: FOR A HAND-IN. Each laying: the table of numbers ('.._ren') and one theorem, a field a fact of the dump's own or the kernel's comparison; each contract: ONE APPLICATION.
-/
namespace Go.Proofs
open Go.Shelf
def Tryz.laysM171_ren : Go.Shelf.Ren := ⟨fun | 171 => 81 | 243 => 120 | 246 => 151 | 283 => 177 | 284 => 178 | 285 => 179 | 286 => 180 | 129 => 173 | 317 => 197 | 318 => 198 | 319 => 199 | 320 => 200 | 337 => 210 | 338 => 211 | n => n, fun | 3 => 3 | 9 => 9 | 2 => 2 | 4 => 4 | 171 => 218 | 0 => 0 | 53 => 214 | 37 => 128 | 5 => 5 | 173 => 220 | 212 => 243 | 51 => 212 | 20 => 20 | 213 => 244 | 46 => 183 | 232 => 258 | 233 => 259 | n => n, fun | 17 => 2 | 18 => 6 | 19 => 7 | n => n⟩
theorem Tryz.laysM171 : Go.Proofs.LaysM.n171 Tryz.prog Tryz.laysM171_ren := {
  mixed := by kernel_rfl
  f129 := Tryz.func173.trans (congrArg some (by kernel_rfl))
  f171 := Tryz.func81.trans (congrArg some (by kernel_rfl))
  f243 := Tryz.func120.trans (congrArg some (by kernel_rfl))
  f246 := Tryz.func151.trans (congrArg some (by kernel_rfl))
  f283 := Tryz.func177.trans (congrArg some (by kernel_rfl))
  f284 := Tryz.func178.trans (congrArg some (by kernel_rfl))
  f285 := Tryz.func179.trans (congrArg some (by kernel_rfl))
  f286 := Tryz.func180.trans (congrArg some (by kernel_rfl))
  f317 := Tryz.func197.trans (congrArg some (by kernel_rfl))
  f318 := Tryz.func198.trans (congrArg some (by kernel_rfl))
  f319 := Tryz.func199.trans (congrArg some (by kernel_rfl))
  f320 := Tryz.func200.trans (congrArg some (by kernel_rfl))
  f337 := Tryz.func210.trans (congrArg some (by kernel_rfl))
  f338 := Tryz.func211.trans (congrArg some (by kernel_rfl))
  t0 := Tryz.underlying0
  a0 := Tryz.isAgg0
  z0 := Tryz.sizeOf0
  v0 := Tryz.zeroValue0
  t2 := Tryz.underlying2
  a2 := Tryz.isAgg2
  z2 := Tryz.sizeOf2
  v2 := Tryz.zeroValue2
  t3 := Tryz.underlying3
  a3 := Tryz.isAgg3
  z3 := Tryz.sizeOf3
  v3 := Tryz.zeroValue3
  t4 := Tryz.underlying4
  a4 := Tryz.isAgg4
  z4 := Tryz.sizeOf4
  v4 := Tryz.zeroValue4
  t5 := Tryz.underlying5
  a5 := Tryz.isAgg5
  z5 := Tryz.sizeOf5
  v5 := Tryz.zeroValue5
  t9 := Tryz.underlying9
  a9 := Tryz.isAgg9
  z9 := Tryz.sizeOf9
  v9 := Tryz.zeroValue9
  t20 := Tryz.underlying20
  a20 := Tryz.isAgg20
  z20 := Tryz.sizeOf20
  v20 := Tryz.zeroValue20
  t37 := Tryz.underlying128
  a37 := Tryz.isAgg128
  z37 := Tryz.sizeOf128
  v37 := Tryz.zeroValue128
  t46 := Tryz.underlying183
  a46 := Tryz.isAgg183
  z46 := Tryz.sizeOf183
  v46 := Tryz.zeroValue183
  t51 := Tryz.underlying212
  a51 := Tryz.isAgg212
  z51 := Tryz.sizeOf212
  v51 := Tryz.zeroValue212
  t53 := Tryz.underlying214
  a53 := Tryz.isAgg214
  z53 := Tryz.sizeOf214
  v53 := Tryz.zeroValue214
  t171 := Tryz.underlying218
  a171 := Tryz.isAgg218
  z171 := Tryz.sizeOf218
  v171 := Tryz.zeroValue218
  t173 := Tryz.underlying220
  a173 := Tryz.isAgg220
  z173 := Tryz.sizeOf220
  v173 := Tryz.zeroValue220
  t212 := Tryz.underlying243
  a212 := Tryz.isAgg243
  z212 := Tryz.sizeOf243
  v212 := Tryz.zeroValue243
  t213 := Tryz.underlying244
  a213 := Tryz.isAgg244
  z213 := Tryz.sizeOf244
  t232 := Tryz.underlying258
  a232 := Tryz.isAgg258
  z232 := Tryz.sizeOf258
  v232 := Tryz.zeroValue258
  t233 := Tryz.underlying259
  a233 := Tryz.isAgg259
  z233 := Tryz.sizeOf259
  v233 := Tryz.zeroValue259
  g17 := by kernel_rfl
  g18 := by kernel_rfl
  g19 := by kernel_rfl
  i0 := by kernel_rfl
  i2 := by kernel_rfl
  i3 := by kernel_rfl
  i4 := by kernel_rfl
  i5 := by kernel_rfl
  i9 := by kernel_rfl
  i20 := by kernel_rfl
  i37 := by kernel_rfl
  i46 := by kernel_rfl
  i51 := by kernel_rfl
  i53 := by kernel_rfl
  i171 := by kernel_rfl
  i173 := by kernel_rfl
  i212 := by kernel_rfl
  i232 := by kernel_rfl
  i233 := by kernel_rfl
  m17 := by kernel_rfl
  m18 := by kernel_rfl
  m19 := by kernel_rfl }
open Go.RowKit Go.Sort Go.Lib in
theorem Tryz.strconv_Itoa (n : Int) (h0 : -9223372036854775808 ≤ n) (h1 : n ≤ 9223372036854775807) (w : World) (htab : Lib.TabIs Tryz.prog w "internal/strconv.uint64pow10" .u64 Lib.pow10Tab) :
    Calls Tryz.prog 81 #[.int .i64 n] w fun e w' => e = .returned (.string ⟨(Lib.itoa n).toArray⟩) ∧ ∃ k os, w' = grow (w.drewN k) os := Any.strconv_Itoa Tryz.laysM171 n h0 h1 w htab
def Tryz.laysC172_ren : Go.Shelf.Ren := ⟨fun | 172 => 86 | 244 => 125 | 245 => 126 | 247 => 157 | 279 => 158 | 280 => 159 | 281 => 160 | 282 => 161 | 287 => 187 | 316 => 188 | 171 => 81 | 205 => 189 | 321 => 206 | 322 => 207 | 243 => 120 | 246 => 151 | 283 => 177 | 284 => 178 | 285 => 179 | 286 => 180 | 129 => 173 | 317 => 197 | 318 => 198 | 319 => 199 | 320 => 200 | 337 => 210 | 338 => 211 | n => n, fun | 9 => 9 | 3 => 3 | 75 => 133 | 76 => 134 | 4 => 4 | 5 => 5 | 167 => 194 | 37 => 128 | 0 => 0 | 85 => 195 | 2 => 2 | 168 => 197 | 53 => 214 | 175 => 228 | 46 => 183 | 210 => 232 | 127 => 191 | 145 => 248 | 143 => 246 | 21 => 21 | 171 => 218 | 173 => 220 | 212 => 243 | 51 => 212 | 20 => 20 | 213 => 244 | 232 => 258 | 233 => 259 | 80 => 173 | n => n, fun | 15 => 0 | 16 => 1 | 17 => 2 | 18 => 6 | 19 => 7 | n => n⟩
theorem Tryz.laysC172 : Go.Proofs.LaysC.n172 Tryz.prog Tryz.laysC172_ren := {
  mixed := by kernel_rfl
  f129 := Tryz.func173.trans (congrArg some (by kernel_rfl))
  f171 := Tryz.func81.trans (congrArg some (by kernel_rfl))
  f172 := Tryz.func86.trans (congrArg some (by kernel_rfl))
  f205 := Tryz.func189.trans (congrArg some (by kernel_rfl))
  f243 := Tryz.func120.trans (congrArg some (by kernel_rfl))
  f244 := Tryz.func125.trans (congrArg some (by kernel_rfl))
  f245 := Tryz.func126.trans (congrArg some (by kernel_rfl))
  f246 := Tryz.func151.trans (congrArg some (by kernel_rfl))
  f247 := Tryz.func157.trans (congrArg some (by kernel_rfl))
  f279 := Tryz.func158.trans (congrArg some (by kernel_rfl))
  f280 := Tryz.func159.trans (congrArg some (by kernel_rfl))
  f281 := Tryz.func160.trans (congrArg some (by kernel_rfl))
  f282 := Tryz.func161.trans (congrArg some (by kernel_rfl))
  f283 := Tryz.func177.trans (congrArg some (by kernel_rfl))
  f284 := Tryz.func178.trans (congrArg some (by kernel_rfl))
  f285 := Tryz.func179.trans (congrArg some (by kernel_rfl))
  f286 := Tryz.func180.trans (congrArg some (by kernel_rfl))
  f287 := Tryz.func187.trans (congrArg some (by kernel_rfl))
  f316 := Tryz.func188.trans (congrArg some (by kernel_rfl))
  f317 := Tryz.func197.trans (congrArg some (by kernel_rfl))
  f318 := Tryz.func198.trans (congrArg some (by kernel_rfl))
  f319 := Tryz.func199.trans (congrArg some (by kernel_rfl))
  f320 := Tryz.func200.trans (congrArg some (by kernel_rfl))
  f321 := Tryz.func206.trans (congrArg some (by kernel_rfl))
  f322 := Tryz.func207.trans (congrArg some (by kernel_rfl))
  f337 := Tryz.func210.trans (congrArg some (by kernel_rfl))
  f338 := Tryz.func211.trans (congrArg some (by kernel_rfl))
  t0 := Tryz.underlying0
  a0 := Tryz.isAgg0
  z0 := Tryz.sizeOf0
  v0 := Tryz.zeroValue0
  t2 := Tryz.underlying2
  a2 := Tryz.isAgg2
  z2 := Tryz.sizeOf2
  v2 := Tryz.zeroValue2
  t3 := Tryz.underlying3
  a3 := Tryz.isAgg3
  z3 := Tryz.sizeOf3
  v3 := Tryz.zeroValue3
  t4 := Tryz.underlying4
  a4 := Tryz.isAgg4
  z4 := Tryz.sizeOf4
  v4 := Tryz.zeroValue4
  t5 := Tryz.underlying5
  a5 := Tryz.isAgg5
  z5 := Tryz.sizeOf5
  v5 := Tryz.zeroValue5
  t9 := Tryz.underlying9
  a9 := Tryz.isAgg9
  z9 := Tryz.sizeOf9
  v9 := Tryz.zeroValue9
  t20 := Tryz.underlying20
  a20 := Tryz.isAgg20
  z20 := Tryz.sizeOf20
  v20 := Tryz.zeroValue20
  t21 := Tryz.underlying21
  a21 := Tryz.isAgg21
  z21 := Tryz.sizeOf21
  v21 := Tryz.zeroValue21
  t37 := Tryz.underlying128
  a37 := Tryz.isAgg128
  z37 := Tryz.sizeOf128
  v37 := Tryz.zeroValue128
  t46 := Tryz.underlying183
  a46 := Tryz.isAgg183
  z46 := Tryz.sizeOf183
  v46 := Tryz.zeroValue183
  t51 := Tryz.underlying212
  a51 := Tryz.isAgg212
  z51 := Tryz.sizeOf212
  v51 := Tryz.zeroValue212
  t53 := Tryz.underlying214
  a53 := Tryz.isAgg214
  z53 := Tryz.sizeOf214
  v53 := Tryz.zeroValue214
  t75 := Tryz.underlying133
  a75 := Tryz.isAgg133
  z75 := Tryz.sizeOf133
  v75 := Tryz.zeroValue133
  t76 := Tryz.underlying134
  a76 := Tryz.isAgg134
  z76 := Tryz.sizeOf134
  v76 := Tryz.zeroValue134
  t85 := Tryz.underlying195
  a85 := Tryz.isAgg195
  z85 := Tryz.sizeOf195
  v85 := Tryz.zeroValue195
  t127 := Tryz.underlying191
  a127 := Tryz.isAgg191
  z127 := Tryz.sizeOf191
  v127 := Tryz.zeroValue191
  t143 := Tryz.underlying246
  a143 := Tryz.isAgg246
  z143 := Tryz.sizeOf246
  v143 := Tryz.zeroValue246
  t145 := Tryz.underlying248
  a145 := Tryz.isAgg248
  z145 := Tryz.sizeOf248
  v145 := Tryz.zeroValue248
  t167 := Tryz.underlying194
  a167 := Tryz.isAgg194
  z167 := Tryz.sizeOf194
  v167 := Tryz.zeroValue194
  t168 := Tryz.underlying197
  a168 := Tryz.isAgg197
  z168 := Tryz.sizeOf197
  v168 := Tryz.zeroValue197
  t171 := Tryz.underlying218
  a171 := Tryz.isAgg218
  z171 := Tryz.sizeOf218
  v171 := Tryz.zeroValue218
  t173 := Tryz.underlying220
  a173 := Tryz.isAgg220
  z173 := Tryz.sizeOf220
  v173 := Tryz.zeroValue220
  t175 := Tryz.underlying228
  a175 := Tryz.isAgg228
  z175 := Tryz.sizeOf228
  v175 := Tryz.zeroValue228
  t210 := Tryz.underlying232
  a210 := Tryz.isAgg232
  z210 := Tryz.sizeOf232
  v210 := Tryz.zeroValue232
  t212 := Tryz.underlying243
  a212 := Tryz.isAgg243
  z212 := Tryz.sizeOf243
  v212 := Tryz.zeroValue243
  t213 := Tryz.underlying244
  a213 := Tryz.isAgg244
  z213 := Tryz.sizeOf244
  t232 := Tryz.underlying258
  a232 := Tryz.isAgg258
  z232 := Tryz.sizeOf258
  v232 := Tryz.zeroValue258
  t233 := Tryz.underlying259
  a233 := Tryz.isAgg259
  z233 := Tryz.sizeOf259
  v233 := Tryz.zeroValue259
  g15 := by kernel_rfl
  g16 := by kernel_rfl
  g17 := by kernel_rfl
  g18 := by kernel_rfl
  g19 := by kernel_rfl
  t80 := Tryz.underlying173
  a80 := Tryz.isAgg173
  z80 := Tryz.sizeOf173
  v80 := Tryz.zeroValue173
  i0 := by kernel_rfl
  i2 := by kernel_rfl
  i3 := by kernel_rfl
  i4 := by kernel_rfl
  i5 := by kernel_rfl
  i9 := by kernel_rfl
  i20 := by kernel_rfl
  i21 := by kernel_rfl
  i37 := by kernel_rfl
  i46 := by kernel_rfl
  i51 := by kernel_rfl
  i53 := by kernel_rfl
  i75 := by kernel_rfl
  i76 := by kernel_rfl
  i80 := by kernel_rfl
  i85 := by kernel_rfl
  i127 := by kernel_rfl
  i143 := by kernel_rfl
  i145 := by kernel_rfl
  i167 := by kernel_rfl
  i168 := by kernel_rfl
  i171 := by kernel_rfl
  i173 := by kernel_rfl
  i175 := by kernel_rfl
  i210 := by kernel_rfl
  i212 := by kernel_rfl
  i232 := by kernel_rfl
  i233 := by kernel_rfl
  m15 := by kernel_rfl
  m16 := by kernel_rfl
  m17 := by kernel_rfl
  m18 := by kernel_rfl
  m19 := by kernel_rfl
  c0 := by kernel_rfl
  c2 := by kernel_rfl
  c3 := by kernel_rfl
  c4 := by kernel_rfl
  c5 := by kernel_rfl
  c9 := by kernel_rfl
  c20 := by kernel_rfl
  c21 := by kernel_rfl
  c37 := by kernel_rfl
  c46 := by kernel_rfl
  c51 := by kernel_rfl
  c53 := by kernel_rfl
  c75 := by kernel_rfl
  c76 := by kernel_rfl
  c80 := by kernel_rfl
  c85 := by kernel_rfl
  c127 := by kernel_rfl
  c143 := by kernel_rfl
  c145 := by kernel_rfl
  c167 := by kernel_rfl
  c168 := by kernel_rfl
  c171 := by kernel_rfl
  c173 := by kernel_rfl
  c175 := by kernel_rfl
  c210 := by kernel_rfl
  c212 := by kernel_rfl
  c213 := by kernel_rfl
  c232 := by kernel_rfl
  c233 := by kernel_rfl }
open Go.RowKit in
theorem Tryz.strconv_Atoi_ok (s : ByteArray) (hmax : s.size ≤ 9223372036854775806) (v : Int) (h : Lib.atoiAll s.data.toList = .ok v) (w : World) :
    Calls Tryz.prog 86 #[.string s] w fun e w' => e = .returned (.tuple #[.int .i64 v, .nilIface]) ∧ (w' = w ∨ ∃ t, w' = Lib.bytesWorld w 5 t) := Any.strconv_Atoi_ok Tryz.laysC172 s hmax v h w
open Go.RowKit in
theorem Tryz.strconv_Atoi_bad (s : ByteArray) (hlim : s.size ≤ 281474976710656) (h : ∀ v, Lib.atoiAll s.data.toList ≠ .ok v) (ev1 ev2 : Value) (w : World) (hv1 : w.cell? ⟨0, 0, none⟩ = some ev1) (hev1 : ev1 = .nilIface ∨ ∃ te pe, ev1 = .iface te pe) (hv2 : w.cell? ⟨1, 0, none⟩ = some ev2) (hev2 : ev2 = .nilIface ∨ ∃ te pe, ev2 = .iface te pe) :
    Calls Tryz.prog 86 #[.string s] w fun e w' => ∃ n N, e = .returned (.tuple #[.int .i64 n, .iface 197 (.pointer (some ⟨N, 0, none⟩))]) ∧ Below w.heap.size w w' := by
  cases hc : Lib.atoiAll s.data.toList
  · exact absurd hc (h _)
  · refine (Any.strconv_Atoi_syntax Tryz.laysC172 s hlim hc ev1 w hv1 hev1).mono ?_
    rintro e w' ⟨N, h1, _, _, h2⟩
    exact ⟨_, _, h1, h2⟩
  · refine (Any.strconv_Atoi_range Tryz.laysC172 s hlim hc ev2 w hv2 hev2).mono ?_
    rintro e w' ⟨N, h1, _, _, h2⟩
    exact ⟨_, _, h1, h2⟩
def Tryz.laysM146_ren : Go.Shelf.Ren := ⟨fun | 146 => 84 | 221 => 124 | 268 => 154 | 138 => 155 | 143 => 156 | 195 => 183 | 197 => 184 | 218 => 185 | 219 => 186 | 260 => 201 | 217 => 202 | 225 => 203 | 224 => 204 | 267 => 205 | 266 => 212 | 314 => 213 | n => n, fun | 9 => 9 | 31 => 91 | 3 => 3 | 4 => 4 | 0 => 0 | 105 => 225 | 21 => 21 | 5 => 5 | 46 => 183 | 119 => 252 | 139 => 255 | 138 => 254 | 146 => 256 | 51 => 212 | n => n, fun | 1 => 3 | 3 => 4 | 4 => 5 | n => n⟩
theorem Tryz.laysM146 : Go.Proofs.LaysM.n146 Tryz.prog Tryz.laysM146_ren := {
  mixed := by kernel_rfl
  f138 := Tryz.func155.trans (congrArg some (by kernel_rfl))
  f143 := Tryz.func156.trans (congrArg some (by kernel_rfl))
  f146 := Tryz.func84.trans (congrArg some (by kernel_rfl))
  f195 := Tryz.func183.trans (congrArg some (by kernel_rfl))
  f197 := Tryz.func184.trans (congrArg some (by kernel_rfl))
  f217 := Tryz.func202.trans (congrArg some (by kernel_rfl))
  f218 := Tryz.func185.trans (congrArg some (by kernel_rfl))
  f219 := Tryz.func186.trans (congrArg some (by kernel_rfl))
  f221 := Tryz.func124.trans (congrArg some (by kernel_rfl))
  f224 := Tryz.func204.trans (congrArg some (by kernel_rfl))
  f225 := Tryz.func203.trans (congrArg some (by kernel_rfl))
  f260 := Tryz.func201.trans (congrArg some (by kernel_rfl))
  f266 := Tryz.func212.trans (congrArg some (by kernel_rfl))
  f267 := Tryz.func205.trans (congrArg some (by kernel_rfl))
  f268 := Tryz.func154.trans (congrArg some (by kernel_rfl))
  f314 := Tryz.func213.trans (congrArg some (by kernel_rfl))
  t0 := Tryz.underlying0
  a0 := Tryz.isAgg0
  z0 := Tryz.sizeOf0
  v0 := Tryz.zeroValue0
  t3 := Tryz.underlying3
  a3 := Tryz.isAgg3
  z3 := Tryz.sizeOf3
  v3 := Tryz.zeroValue3
  t4 := Tryz.underlying4
  a4 := Tryz.isAgg4
  z4 := Tryz.sizeOf4
  v4 := Tryz.zeroValue4
  t5 := Tryz.underlying5
  a5 := Tryz.isAgg5
  z5 := Tryz.sizeOf5
  v5 := Tryz.zeroValue5
  t9 := Tryz.underlying9
  a9 := Tryz.isAgg9
  z9 := Tryz.sizeOf9
  v9 := Tryz.zeroValue9
  t21 := Tryz.underlying21
  a21 := Tryz.isAgg21
  z21 := Tryz.sizeOf21
  v21 := Tryz.zeroValue21
  t31 := Tryz.underlying91
  a31 := Tryz.isAgg91
  z31 := Tryz.sizeOf91
  v31 := Tryz.zeroValue91
  t46 := Tryz.underlying183
  a46 := Tryz.isAgg183
  z46 := Tryz.sizeOf183
  v46 := Tryz.zeroValue183
  t51 := Tryz.underlying212
  a51 := Tryz.isAgg212
  z51 := Tryz.sizeOf212
  v51 := Tryz.zeroValue212
  t105 := Tryz.underlying225
  a105 := Tryz.isAgg225
  z105 := Tryz.sizeOf225
  v105 := Tryz.zeroValue225
  t119 := Tryz.underlying252
  a119 := Tryz.isAgg252
  z119 := Tryz.sizeOf252
  t138 := Tryz.underlying254
  a138 := Tryz.isAgg254
  z138 := Tryz.sizeOf254
  v138 := Tryz.zeroValue254
  t139 := Tryz.underlying255
  a139 := Tryz.isAgg255
  z139 := Tryz.sizeOf255
  v139 := Tryz.zeroValue255
  t146 := Tryz.underlying256
  a146 := Tryz.isAgg256
  z146 := Tryz.sizeOf256
  v146 := Tryz.zeroValue256
  g1 := by kernel_rfl
  g3 := by kernel_rfl
  g4 := by kernel_rfl
  i0 := by kernel_rfl
  i3 := by kernel_rfl
  i4 := by kernel_rfl
  i5 := by kernel_rfl
  i9 := by kernel_rfl
  i21 := by kernel_rfl
  i31 := by kernel_rfl
  i46 := by kernel_rfl
  i51 := by kernel_rfl
  i105 := by kernel_rfl
  i138 := by kernel_rfl
  i139 := by kernel_rfl
  i146 := by kernel_rfl
  m1 := by kernel_rfl
  s1_3 := fun w h => Go.Proofs.cell_of_shapedOpen_int (zero := #[.int .i64 0]) (t := 3) h (of_decide_eq_true (by kernel_rfl)) (by kernel_rfl) rfl (by kernel_rfl) (by kernel_rfl) Tryz.underlying3
  m3 := by kernel_rfl
  m4 := by kernel_rfl }
def Tryz.lays146_ren : Go.Shelf.Ren := ⟨fun | 146 => 84 | 221 => 124 | 268 => 154 | 138 => 155 | 143 => 156 | 195 => 183 | 197 => 184 | 218 => 185 | 219 => 186 | 260 => 201 | 217 => 202 | 225 => 203 | 224 => 204 | 267 => 205 | 266 => 212 | 314 => 213 | n => n, fun | 9 => 9 | 31 => 91 | 3 => 3 | 4 => 4 | 0 => 0 | 105 => 225 | 21 => 21 | 5 => 5 | 46 => 183 | 119 => 252 | 139 => 255 | 138 => 254 | 146 => 256 | 51 => 212 | n => n, fun | 1 => 3 | 3 => 4 | 4 => 5 | n => n⟩
theorem Tryz.lays146 : Go.Proofs.Lays.n146 Tryz.prog Tryz.lays146_ren := {
  mixed := by kernel_rfl
  f138 := Tryz.func155.trans (congrArg some (by kernel_rfl))
  f143 := Tryz.func156.trans (congrArg some (by kernel_rfl))
  f146 := Tryz.func84.trans (congrArg some (by kernel_rfl))
  f195 := Tryz.func183.trans (congrArg some (by kernel_rfl))
  f197 := Tryz.func184.trans (congrArg some (by kernel_rfl))
  f217 := Tryz.func202.trans (congrArg some (by kernel_rfl))
  f218 := Tryz.func185.trans (congrArg some (by kernel_rfl))
  f219 := Tryz.func186.trans (congrArg some (by kernel_rfl))
  f221 := Tryz.func124.trans (congrArg some (by kernel_rfl))
  f224 := Tryz.func204.trans (congrArg some (by kernel_rfl))
  f225 := Tryz.func203.trans (congrArg some (by kernel_rfl))
  f260 := Tryz.func201.trans (congrArg some (by kernel_rfl))
  f266 := Tryz.func212.trans (congrArg some (by kernel_rfl))
  f267 := Tryz.func205.trans (congrArg some (by kernel_rfl))
  f268 := Tryz.func154.trans (congrArg some (by kernel_rfl))
  f314 := Tryz.func213.trans (congrArg some (by kernel_rfl))
  t0 := Tryz.underlying0
  a0 := Tryz.isAgg0
  z0 := Tryz.sizeOf0
  v0 := Tryz.zeroValue0
  t3 := Tryz.underlying3
  a3 := Tryz.isAgg3
  z3 := Tryz.sizeOf3
  v3 := Tryz.zeroValue3
  t4 := Tryz.underlying4
  a4 := Tryz.isAgg4
  z4 := Tryz.sizeOf4
  v4 := Tryz.zeroValue4
  t5 := Tryz.underlying5
  a5 := Tryz.isAgg5
  z5 := Tryz.sizeOf5
  v5 := Tryz.zeroValue5
  t9 := Tryz.underlying9
  a9 := Tryz.isAgg9
  z9 := Tryz.sizeOf9
  v9 := Tryz.zeroValue9
  t21 := Tryz.underlying21
  a21 := Tryz.isAgg21
  z21 := Tryz.sizeOf21
  v21 := Tryz.zeroValue21
  t31 := Tryz.underlying91
  a31 := Tryz.isAgg91
  z31 := Tryz.sizeOf91
  v31 := Tryz.zeroValue91
  t46 := Tryz.underlying183
  a46 := Tryz.isAgg183
  z46 := Tryz.sizeOf183
  v46 := Tryz.zeroValue183
  t51 := Tryz.underlying212
  a51 := Tryz.isAgg212
  z51 := Tryz.sizeOf212
  v51 := Tryz.zeroValue212
  t105 := Tryz.underlying225
  a105 := Tryz.isAgg225
  z105 := Tryz.sizeOf225
  v105 := Tryz.zeroValue225
  t119 := Tryz.underlying252
  a119 := Tryz.isAgg252
  z119 := Tryz.sizeOf252
  t138 := Tryz.underlying254
  a138 := Tryz.isAgg254
  z138 := Tryz.sizeOf254
  v138 := Tryz.zeroValue254
  t139 := Tryz.underlying255
  a139 := Tryz.isAgg255
  z139 := Tryz.sizeOf255
  v139 := Tryz.zeroValue255
  t146 := Tryz.underlying256
  a146 := Tryz.isAgg256
  z146 := Tryz.sizeOf256
  v146 := Tryz.zeroValue256
  g1 := by kernel_rfl
  g3 := by kernel_rfl
  g4 := by kernel_rfl }
open Go.RowKit in
theorem Tryz.strings_Split (s sep : ByteArray) (m : Int) (w : World) (hs : s.size < 4294967281) (hm : w.cell? ⟨3, 0, none⟩ = some (.int .i64 m)) (h1 : 1 ≤ sep.size) :
    Calls Tryz.prog 84 #[.string s, .string sep] w fun e w' =>
      e = .returned (.slice (some ⟨w.heap.size, 0, none⟩) (Lib.countB s sep + 1) (Lib.countB s sep + 1)) ∧ w' = w.alloc (.cells ((Lib.splitB sep 0 (Lib.countB s sep) s).map Value.string).toArray 9) := Any.strings_Split Tryz.lays146 (by kernel_rfl) s sep m w hs hm h1
def Tryz.lays156_ren : Go.Shelf.Ren := ⟨fun | 156 => 82 | 165 => 121 | 166 => 122 | 169 => 123 | 240 => 152 | 241 => 153 | 276 => 181 | 277 => 182 | n => n, fun | 31 => 91 | 9 => 9 | 3 => 3 | 4 => 4 | 0 => 0 | 20 => 20 | 72 => 171 | 76 => 134 | 70 => 169 | 37 => 128 | 75 => 133 | 127 => 191 | 164 => 222 | 5 => 5 | 80 => 173 | n => n, fun | n => n⟩
theorem Tryz.lays156 : Go.Proofs.Lays.n156 Tryz.prog Tryz.lays156_ren := {
  mixed := by kernel_rfl
  f156 := Tryz.func82.trans (congrArg some (by kernel_rfl))
  f165 := Tryz.func121.trans (congrArg some (by kernel_rfl))
  f166 := Tryz.func122.trans (congrArg some (by kernel_rfl))
  f169 := Tryz.func123.trans (congrArg some (by kernel_rfl))
  f240 := Tryz.func152.trans (congrArg some (by kernel_rfl))
  f241 := Tryz.func153.trans (congrArg some (by kernel_rfl))
  f276 := Tryz.func181.trans (congrArg some (by kernel_rfl))
  f277 := Tryz.func182.trans (congrArg some (by kernel_rfl))
  t0 := Tryz.underlying0
  a0 := Tryz.isAgg0
  z0 := Tryz.sizeOf0
  v0 := Tryz.zeroValue0
  t3 := Tryz.underlying3
  a3 := Tryz.isAgg3
  z3 := Tryz.sizeOf3
  v3 := Tryz.zeroValue3
  t4 := Tryz.underlying4
  a4 := Tryz.isAgg4
  z4 := Tryz.sizeOf4
  v4 := Tryz.zeroValue4
  t9 := Tryz.underlying9
  a9 := Tryz.isAgg9
  z9 := Tryz.sizeOf9
  v9 := Tryz.zeroValue9
  t20 := Tryz.underlying20
  a20 := Tryz.isAgg20
  z20 := Tryz.sizeOf20
  v20 := Tryz.zeroValue20
  t31 := Tryz.underlying91
  a31 := Tryz.isAgg91
  z31 := Tryz.sizeOf91
  v31 := Tryz.zeroValue91
  t37 := Tryz.underlying128
  a37 := Tryz.isAgg128
  z37 := Tryz.sizeOf128
  v37 := Tryz.zeroValue128
  t70 := Tryz.underlying169
  a70 := Tryz.isAgg169
  z70 := Tryz.sizeOf169
  v70 := Tryz.zeroValue169
  t72 := Tryz.underlying171
  a72 := Tryz.isAgg171
  z72 := Tryz.sizeOf171
  v72 := Tryz.zeroValue171
  t75 := Tryz.underlying133
  a75 := Tryz.isAgg133
  z75 := Tryz.sizeOf133
  v75 := Tryz.zeroValue133
  t76 := Tryz.underlying134
  a76 := Tryz.isAgg134
  z76 := Tryz.sizeOf134
  v76 := Tryz.zeroValue134
  t127 := Tryz.underlying191
  a127 := Tryz.isAgg191
  z127 := Tryz.sizeOf191
  v127 := Tryz.zeroValue191
  t164 := Tryz.underlying222
  a164 := Tryz.isAgg222
  z164 := Tryz.sizeOf222
  v164 := Tryz.zeroValue222 }
theorem Tryz.Builder_Extra_156 : Builder.Extra Tryz.prog Tryz.lays156_ren := {
  sizeBuilder := by kernel_rfl
  liesBuilder := by kernel_rfl
  t5 := Tryz.underlying5
  a5 := Tryz.isAgg5
  z5 := Tryz.sizeOf5
  v5 := Tryz.zeroValue5
  infoByte := by kernel_rfl
  cellsByte := by kernel_rfl
  sizeByte := by kernel_rfl
  neB5 := by decide }
open Go.RowKit in
theorem Tryz.strings_Join (bk o c : Nat) (xs : List ByteArray) (sep : ByteArray) (w : World) (hcells : ∀ (j : Nat) x, xs[j]? = some x → w.cell? ⟨bk, o + j, none⟩ = some (.string x)) (hbk : bk < w.heap.size) (hN : xs.length ≤ 140737488355328) (hcap : xs.length ≤ c) (hlen : (Lib.join (xs.map (·.data.toList)) sep.data.toList).length ≤ 140737488355328) :
    Calls Tryz.prog 82 #[.slice (some ⟨bk, o, none⟩) xs.length c, .string sep] w fun e w' => e = .returned (.string ⟨(Lib.join (xs.map (·.data.toList)) sep.data.toList).toArray⟩) ∧ Below w.heap.size w w' := Any.strings_Join Tryz.lays156 Tryz.Builder_Extra_156 bk o c xs sep w hcells hbk hN hcap hlen
end Go.Proofs

/-
  Walks: numbers joined with blanks (award.join); what the library's variables hold.
-/
namespace Go.Proofs.YtkeppoiomjhkpaaGreatDoor
open Go.RowKit Lg Go.Sort Go.Shelf

/-- What the library's variables hold. -/
structure Vs (w : World) : Prop where
  tab : Lib.TabIs Tryz.prog w "internal/strconv.uint64pow10" .u64 Lib.pow10Tab
  syn : ∃ ev, w.cell? ⟨0, 0, none⟩ = some ev ∧ (ev = .nilIface ∨ ∃ te pe, ev = .iface te pe)
  rng : ∃ ev, w.cell? ⟨1, 0, none⟩ = some ev ∧ (ev = .nilIface ∨ ∃ te pe, ev = .iface te pe)
  max : ∃ m, w.cell? ⟨3, 0, none⟩ = some (.int .i64 m)

theorem tab_named : Tryz.prog.globalNamed "internal/strconv.uint64pow10" = some 2 := by kernel_rfl

theorem Vs.below {w W : World} (h : Vs w) (hb : RowKit.Below w.heap.size w W) : Vs W := by
  have lt : ∀ {g : Nat} {v : Value}, w.cell? ⟨g, 0, none⟩ = some v → g < w.heap.size := fun hc => World.block_lt_of_cell? _ _ hc
  refine ⟨?_, ?_, ?_, ?_⟩
  · have hc := h.tab.cell tab_named 0 (by decide)
    exact var?_below hb tab_named (lt hc) h.tab
  · obtain ⟨ev, h1, h2⟩ := h.syn
    exact ⟨ev, (hb.cell (lt h1)).trans h1, h2⟩
  · obtain ⟨ev, h1, h2⟩ := h.rng
    exact ⟨ev, (hb.cell (lt h1)).trans h1, h2⟩
  · obtain ⟨m, h1⟩ := h.max
    exact ⟨m, (hb.cell (lt h1)).trans h1⟩

theorem below_grown_draws (w : World) (k : Nat) (os : Array Obj) : RowKit.Below w.heap.size w (grow (w.drewN k) os) := Go.Lib.below_grow _ w (Nat.le_refl _) k os

theorem itoa_any {w : World} (hV : Vs w) (n : Int) (h0 : 0 ≤ n) (h1 : n ≤ 9223372036854775807) : Calls Tryz.prog 81 #[.int .i64 n] w (Gives w (.string (ofL (nm n)))) := by
  refine (Tryz.strconv_Itoa n (by omega) h1 w hV.tab).mono ?_
  rintro e w' ⟨rfl, k, os, rfl⟩
  exact ⟨rfl, below_grown_draws w k os⟩

theorem joinB_len (xs : List Int) (h : ∀ x ∈ xs, 0 ≤ x ∧ x < 1000000000000) : (lineL (xs.map nm)).length ≤ 13 * xs.length := by
  cases xs with
  | nil => simp [lineL]
  | cons x r =>
    rw [List.map_cons, lineL_cons, ← numsL_tail, List.length_append]
    have := nm_len (h x (by simp)).1 (h x (by simp)).2
    have := numsL_len r (fun y hy => h y (by simp [hy]))
    simp; omega

set_option maxRecDepth 100000 in
set_option maxHeartbeats 3200000 in
theorem join_any (a : Option Addr) (n cap : Nat) (xs : List Int) (w : World) (hV : Vs w) (hn : n ≤ 10) (hp : 0 < n) (hx : ∀ x ∈ xs, 0 ≤ x ∧ x < 1000000000000) (hL : Lst w 1 cI a n cap xs) :
    Calls Tryz.prog 47 #[.slice a n cap] w (Gives w (.string (ofL (lineL (xs.map nm))))) := by
  have hma : cap ≤ 9223372036854775807 := by have := hL.max; unfold maxLen at this; omega
  have hlea := hL.le
  have hlen := Lib.hid hL.len
  obtain ⟨i0, hi0, hz0, hz1, hz2⟩ := info_parts infoW
  go_enter Tryz.func47, Tryz.ntmps47
  go_wp2_with (fail)
  go_loopw [3, 8] (fun o i wr => ∃ k : Nat, k ≤ n ∧ i = .int .i64 k ∧ wr.ownsRow w.heap.size 9 1 o k (((xs.take k).map fun x => ofL (nm x)).flatMap cW) ∧ RowKit.Below w.heap.size w wr) (fun _ i _ => n - (intOf i).toNat)
  case atStart => exact ⟨0, Nat.zero_le _, rfl, ⟨by simp, .inl ⟨rfl, rfl⟩⟩, Below.refl _ _⟩
  case round =>
    obtain ⟨k, hk, rfl, hor, hB⟩ := hrel
    by_cases hlt : k < n
    · have hltz : (k : Int) < (n : Int) := by omega
      obtain ⟨x, hxk⟩ : ∃ x, xs[k]? = some x := ⟨xs[k]'(by rw [hlen.out]; exact hlt), by simp⟩
      obtain ⟨b1, o1, rfl, hb1, hr1⟩ := hL.at_ k x hxk
      have l1 := rangeAt_below hB hb1 hr1 0 _ rfl
      simp only [Nat.mul_one, Nat.add_zero] at l1
      have hx1 := hx x (List.mem_of_getElem? hxk)
      have hI := itoa_any (hV.below hB) x hx1.1 (by omega)
      have hsn : ((xs.take (k + 1)).map fun x => ofL (nm x)) = ((xs.take k).map fun x => ofL (nm x)) ++ [ofL (nm x)] := by
        obtain ⟨h1, h2⟩ := List.getElem?_eq_some_iff.1 hxk
        rw [List.take_succ_eq_append_getElem h1, h2, List.map_append]; rfl
      have Hsn := Lib.hid hsn
      have Hor := Lib.hid hor
      clear hx hx1 hr1 hxk hsn hor hV
      generalize ofL (nm x) = rx at *
      go_wp2_with (fail)
      refine hI.mono ?_
      clear hI
      rintro e w2 ⟨rfl, hB2⟩
      have hBb := hB.trans (hB2.mono hB.size)
      have hor2 := own_below Hor.out hB2
      have Hor2 := Lib.hid hor2
      clear hor2 Hor
      go_wp2_with (first
        | (at_builtin; refine wpList_append_list rfl _ _ _ rfl w.heap.size 9 i0 _ 1 16 Tryz.underlying91 hi0 hz0 hz1 hz2 rfl (by omega) _ _ _ rfl (Hor2.out.alloc _) cW (fun _ => rfl) cW_one _ 1 _ [rx] rfl (Lst.oneW (Blk.new _ _ _)) (by unfold maxLen; omega) (by omega) (by have := hBb.size; simp; omega) ?_; intro v2 w3 hown2 hgrow2; have hB3 := below_of_grown (hBb.alloc hBb.size _) (Nat.le_refl _) hgrow2 (own_ge' Hor2.out))
        | fail)
      go_roundw
      case rel =>
        refine ⟨k + 1, by omega, by go_num, ?_, hB3⟩
        rw [Hsn.out, List.flatMap_append]
        exact hown2
      case measure => simp [intOf]; omega
    · obtain rfl : k = n := by omega
      rw [List.take_of_length_le (by rw [hlen.out]; exact Nat.le_refl _)] at hor
      obtain ⟨ws, hws⟩ : ∃ ws, ws = xs.map fun x => ofL (nm x) := ⟨_, rfl⟩
      have hwl : ws.length = k := by rw [hws, List.length_map, hlen.out]
      rw [← hws] at hor
      obtain ⟨av, cv, rfl, _, hl⟩ := Lst.of_owns (k := 1) (enc := cW) (fun _ => rfl) (by omega) hor hwl
      obtain ⟨bk, off, rfl, hbk, hcl⟩ := hl.wordCells (by omega)
      have hdat : ws.map (·.data.toList) = xs.map nm := by
        rw [hws, List.map_map]
        exact List.map_congr_left fun x _ => by simp [ofL]
      have hj := Tryz.strings_Join bk off cv ws ⟨#[32]⟩ wr hcl hbk (by omega) (by rw [hwl]; exact hl.le) (by
        rw [hdat, show (⟨#[32]⟩ : ByteArray).data.toList = [32] from rfl, lineL_join]
        have := joinB_len xs hx
        rw [hlen.out] at this
        omega)
      rw [hdat, show (⟨#[32]⟩ : ByteArray).data.toList = [32] from rfl, lineL_join, hwl] at hj
      clear hor hl hcl hdat hws hwl hx hL hV
      go_wp2_with (fail)
      refine hj.mono ?_
      rintro e w4 ⟨rfl, hB4⟩
      go_wp2_with (fail)
      go_ret
      exact ⟨rfl, hB.trans (hB4.mono hB.size)⟩

end Go.Proofs.YtkeppoiomjhkpaaGreatDoor
