import Derived.Test.YtmeomhojbobpbaaGreatDoorPart04
import Derived.Test.YtmeomhojbobpbaaGreatDoorPart03
import Derived.Deep.RegionHeld3
import Derived.Deep.AppendLies
import Derived.Sort.OwnSortedInts
import Derived.Lib.OwnBridge
import Derived.Test.YtmeomhojbobpbaaGreatDoorPart02
import Derived.Maps.OwnOps
import Derived.Maps.OwnSet
import Derived.Lib.SlKeysI
import Derived.Test.YtmeomhojbobpbaaGreatDoorPart01
import Derived.Laws.OwnMore
import Derived.RangeFuncNested
import Derived.RangeFuncBound
import Derived.RangeFuncCalls
import Derived.RangeFuncLeaves
import Derived.RangeFuncBox
import Derived.Shelf.Abstract
import Derived.Shelf.RegionOpen
import Derived.OwnWalkIn
import Derived.TacticsInMore
import Derived.LoopNIn
import Derived.LoopIn
import Derived.Lib.QuietBelowIn
import Derived.StillTailTactics
import Derived.BigQuiet
import Derived.Deep.Slices
import Derived.OpenShut
import Derived.Deep.CutRange
import Derived.Deep.DeepCutAuto
import Derived.Deep.Upon
import Derived.Lib.Strings
import Derived.Lib.IndexBytes
import Derived.Deep.Quiet
import Derived.OrdersIn
import Derived.BigRegion
/-
  Walk: the first record that is refused.
-/
namespace Go.Proofs.YtmeomhojbobpbaaGreatDoor
open Go.RowKit Lg Go.Sort Go.Shelf

end Go.Proofs.YtmeomhojbobpbaaGreatDoor

/-
  Walk: a list with one more record.
-/
namespace Go.Proofs.YtmeomhojbobpbaaGreatDoor
open Go.RowKit Lg Go.Sort Go.Shelf

/-- A call hands back a new list, and a number. -/
def GivesL {α : Type} (w : World) (e : TypeId) (k : Nat) (enc : α → List Value) (xs : List α) (m : Int) (en : Ending) (w' : World) : Prop :=
  ∃ v, en = .returned (.tuple #[v, .int .i64 m]) ∧ w'.ownsRow w.heap.size e k v xs.length (xs.flatMap enc) ∧ RowKit.Below w.heap.size w w'

theorem GivesL.nil {α : Type} {w w' : World} {e : TypeId} {k : Nat} {enc : α → List Value} {m : Int} (h : RowKit.Below w.heap.size w w') : GivesL w e k enc ([] : List α) m (.returned (.tuple #[.slice none 0 0, .int .i64 m])) w' :=
  ⟨_, rfl, ⟨by simp, .inl ⟨rfl, rfl⟩⟩, h⟩

theorem own_ge {W : World} {base : Nat} {e : TypeId} {k : Nat} {v : Value} {n : Nat} {xs : List Value} (h : W.ownsRow base e k v n xs) : ∀ r, v.ownBlock = some r → base ≤ r := by
  rintro r hr
  obtain ⟨_, ⟨rfl, _⟩ | ⟨g, cap, cur, rfl, hb, _⟩⟩ := h
  · cases hr
  · cases hr; exact hb

theorem ap_base1 {w3 w4 : World} (h : RowKit.Below w3.drew.heap.size w3.drew w4) (o : Obj) : w3.heap.size ≤ (w4.alloc o).heap.size := by
  have := h.size; rw [World.size_alloc]; exact Nat.le_succ_of_le this
theorem ap_lt {w w3 : World} (h : w.heap.size < w3.heap.size) (o : Obj) : w.heap.size < (w3.alloc o).drew.heap.size := by
  have e : (w3.alloc o).drew.heap.size = w3.heap.size + 1 := World.size_alloc w3 o
  omega
theorem ap_base2 {w3 w4 : World} {o : Obj} (h : RowKit.Below (w3.alloc o).drew.heap.size (w3.alloc o).drew w4) : w3.heap.size ≤ w4.heap.size := by
  have := h.size
  have e : (w3.alloc o).drew.heap.size = w3.heap.size + 1 := World.size_alloc w3 o
  omega

end Go.Proofs.YtmeomhojbobpbaaGreatDoor

/-
  Sorting and compacting a row of the call's own.
-/
namespace Go.Proofs.YtmeomhojbobpbaaGreatDoor
open Go.RowKit Lg Go.Sort Go.Shelf

theorem flat_int (zs : List Int) : zs.flatMap cI = zs.map (Value.int .i64) := by
  induction zs with
  | nil => rfl
  | cons z zs ih => rw [List.flatMap_cons, ih]; rfl

theorem grownBy_putRow {enc : Int → Value} {w : World} {g q : Nat} {d : Array Int} : w.grownBy (putRow enc (Sort.ahead w q) g 0 d) (some g) := by
  refine ⟨rfl, rfl, rfl, by simp, fun k hk hne => ?_⟩
  have : g ≠ k := fun e => hne (by rw [e])
  simp [putRow, mapBlock, Sort.ahead, Array.getElem?_modify, this]

theorem below_of_grown {n : Nat} {w w' W : World} {row : Option Nat} (h : RowKit.Below n W w) (hn : n ≤ W.heap.size) (hg : w.grownBy w' row) (hr : ∀ r, row = some r → n ≤ r) : RowKit.Below n W w' :=
  h.grown hg (Nat.le_trans hn h.size) (fun k e => hr k e)

theorem sortOwn (base n : Nat) (v : Value) (zs : List Int) (w : World) (hn : n ≤ 1000000) (ho : w.ownsRow base 3 1 v n (zs.map (Value.int .i64))) :
    Calls Tryz.prog 124 #[v] w fun e w' => e = .returned (.tuple #[]) ∧ w'.ownsRow base 3 1 v n ((zs.mergeSort fun x y => decide (x ≤ y)).map (Value.int .i64)) ∧ w.grownBy w' v.ownBlock := by
  have hl : zs.length = n := by simpa using ho.1
  obtain ⟨h0, ⟨rfl, rfl⟩ | ⟨g, cap, cur, rfl, hb, hg, hnc, hcm, hcur, htk⟩⟩ := ho
  · have : zs = [] := List.eq_nil_of_length_eq_zero hl
    subst this
    refine (Tryz.slices_Sort_int_none none 0 w).mono ?_
    rintro e w' ⟨rfl, rfl⟩
    exact ⟨rfl, ⟨by simp, .inl ⟨rfl, rfl⟩⟩, ⟨rfl, rfl, rfl, Nat.le_refl _, fun _ _ _ => rfl⟩⟩
  · obtain ⟨g', cap', hv, hb', hgl, _, _, _, hH⟩ := Lib.holds_of_ownsRow (enc := Value.int .i64) ⟨h0, .inr ⟨g, cap, cur, rfl, hb, hg, hnc, hcm, hcur, htk⟩⟩ (by simp)
    cases hv
    have hs := Tryz.slices_Sort_int g 0 cap zs w hH hgl (by omega)
    rw [hl] at hs
    refine hs.mono ?_
    rintro e w' ⟨rfl, nn, os, rfl⟩
    have ht : (zs.mergeSort fun x y => decide (x ≤ y)).length = zs.length := List.length_mergeSort zs
    have := ownsRow_sortedI (n := nn) (os := os) ht hb hg (by omega) hcm hcur
    rw [hl] at this
    exact ⟨rfl, this, grownBy_sortedI _⟩

theorem compactOwn (base n : Nat) (v : Value) (zs : List Int) (w : World) (hn : n ≤ 1000000) (ho : w.ownsRow base 3 1 v n (zs.map (Value.int .i64))) :
    Calls Tryz.prog 170 #[v] w fun e w' => ∃ v', e = .returned v' ∧ w'.ownsRow base 3 1 v' (Lib.compact zs).length ((Lib.compact zs).map (Value.int .i64)) ∧ w.grownBy w' v.ownBlock ∧ v'.ownBlock = v.ownBlock := by
  have hl : zs.length = n := by simpa using ho.1
  have ho' := ho
  obtain ⟨h0, ⟨rfl, rfl⟩ | ⟨g, cap, cur, rfl, hb, hg, hnc, hcm, hcur, htk⟩⟩ := ho
  · have : zs = [] := List.eq_nil_of_length_eq_zero hl
    subst this
    refine (Tryz.slices_Compact_int_empty none 0 w).mono ?_
    rintro e w' ⟨rfl, rfl⟩
    exact ⟨_, rfl, ⟨rfl, .inl ⟨rfl, rfl⟩⟩, ⟨rfl, rfl, rfl, Nat.le_refl _, fun _ _ _ => rfl⟩, rfl⟩
  · obtain ⟨g', cap', hv, hb', hgl, _, _, _, hH⟩ := Lib.holds_of_ownsRow ho' (by simp)
    cases hv
    have hle := Lib.compact_length_le zs
    have hs := Tryz.slices_Compact_int g 0 cap zs w hH (by omega) (by omega)
    rw [hl] at hs
    refine hs.mono ?_
    rintro e w' ⟨rfl, q, rfl⟩
    have hc := Lib.ownsRow_putRow (q := q) (k := (Lib.compact zs).length) (ys := Lib.compact zs ++ List.replicate (n - (Lib.compact zs).length) 0) ho' (by simp; omega) (by omega)
    rw [List.take_left] at hc
    exact ⟨_, rfl, hc, grownBy_putRow, rfl⟩

end Go.Proofs.YtmeomhojbobpbaaGreatDoor

/-
  Walk: the sums of shares, in a map of the call's own.
-/
namespace Go.Proofs.YtmeomhojbobpbaaGreatDoor
open Go.RowKit Lg Go.Sort Go.Shelf Go.Maps

/-- The map holds just the numbers of f that are not 0. -/
def MapF (D : DataW Unit) (f : Int → Int) : Prop :=
  IsMap D ∧ ∀ k : Int, D.atKey (.int .i64 k) (.lit (.int .i64 0)) = .lit (.int .i64 (f k)) ∧ has D (.int .i64 k) = decide (f k ≠ 0)

def upd (f : Int → Int) (p v : Int) : Int → Int := fun q => if q = p then v else f q

theorem isKeyI (k : Int) : WideAt.IsKeyLit (.int .i64 k) := trivial
theorem MapF.put {D : DataW Unit} {f : Int → Int} (h : MapF D f) (p v : Int) (hv : v ≠ 0) : MapF (D.put (.int .i64 p) (.lit (.int .i64 v))) (upd f p v) := by
  refine ⟨h.1.put _ _, fun k => ?_⟩
  unfold upd
  by_cases hk : k = p
  · subst hk
    rw [atKey_put_same h.1 (isKeyI _), has_put_same h.1 (isKeyI _), if_pos rfl]
    exact ⟨rfl, by simp [hv]⟩
  · have hne : (Lit.int .i64 k) ≠ .int .i64 p := by simpa using hk
    rw [atKey_put_other hne, has_put_other hne, if_neg hk]
    exact h.2 k

theorem MapF.congr {D : DataW Unit} {f g : Int → Int} (h : MapF D f) (e : ∀ p, f p = g p) : MapF D g := by
  rw [show g = f from funext fun p => (e p).symm]; exact h

theorem MapF.empty : MapF (.map []) (fun _ => 0) := ⟨⟨[], rfl⟩, fun _k => ⟨rfl, rfl⟩⟩

theorem lawI : Keyed Tryz.prog 3 := int_keyed Tryz.underlying3
/-- What a map of the call's own holds. -/
def OwnM (b n : Nat) (f : Int → Int) (w : World) : Prop := ∃ D : DataW Unit, w.ownsMap Tryz.prog 3 (plainElem Tryz.prog 3) b n D ∧ MapF D f

end Go.Proofs.YtmeomhojbobpbaaGreatDoor

/-
  Walks: parties, equal parts.
-/
namespace Go.Proofs.YtmeomhojbobpbaaGreatDoor
open Go.RowKit Lg Go.Sort Go.Shelf

end Go.Proofs.YtmeomhojbobpbaaGreatDoor

/-
  Walks: the records that are well-formed.
-/
namespace Go.Proofs.YtmeomhojbobpbaaGreatDoor
open Go.RowKit Lg Go.Sort

end Go.Proofs.YtmeomhojbobpbaaGreatDoor

/-
  Walks: fees, parties.
-/
namespace Go.Proofs.YtmeomhojbobpbaaGreatDoor
open Go.RowKit Lg Go.Sort Go.Shelf

end Go.Proofs.YtmeomhojbobpbaaGreatDoor

/-
  Walks: the pot: takes, gives.
-/
namespace Go.Proofs.YtmeomhojbobpbaaGreatDoor
open Go.RowKit Lg Go.Sort Go.Shelf

end Go.Proofs.YtmeomhojbobpbaaGreatDoor

/-
  The iterator over what counts: its contract.
-/
namespace Go.Proofs.YtmeomhojbobpbaaGreatDoor
open Go.RowKit Lg Go.Sort Go.Shelf

attribute [local go_sem] Oper.semAt_some

theorem grownBy_of_below {w w' : World} (h : Below w.heap.size w w') : w.grownBy w' none :=
  ⟨h.os, h.tape, h.output, h.size, fun k hk _ => h.block k hk⟩

/-- The blocks of S lie as they lay. -/
def KpOn (S : Nat → Prop) (W W' : World) : Prop := W.heap.size ≤ W'.heap.size ∧ ∀ k, S k → W'.heap[k]? = W.heap[k]?
theorem KpOn.refl (S : Nat → Prop) (W : World) : KpOn S W W := ⟨Nat.le_refl _, fun _ _ => rfl⟩
theorem KpOn.trans {S : Nat → Prop} {a b c : World} (h : KpOn S a b) (k : KpOn S b c) : KpOn S a c := ⟨Nat.le_trans h.1 k.1, fun i hi => (k.2 i hi).trans (h.2 i hi)⟩
theorem KpOn.of_below {S : Nat → Prop} {B : Nat} {a b : World} (h : Below B a b) (hS : ∀ k, S k → k < B) : KpOn S a b := ⟨h.size, fun k hk => h.block k (hS k hk)⟩
theorem KpOn.cell {S : Nat → Prop} {W W' : World} (h : KpOn S W W') {p : Addr} (hp : S p.block) : W'.cell? p = W.cell? p := World.cell?_of_block (w := W) (h.2 p.block hp)
theorem rangeAt_kp {S : Nat → Prop} {w w' : World} (h : KpOn S w w') {b o : Nat} {cs : List Value} (hb : S b) (hr : w.rangeAt b o cs) : w'.rangeAt b o cs :=
  fun j v hv => (h.cell (p := ⟨b, o + j, none⟩) hb).trans (hr j v hv)

theorem abides_below {β : Type} {B : Nat} {J : β → World → Prop} (h : AbidesFrom B J) {s : β} {W W' : World} (hJ : J s W) (hb : Below W.heap.size W W') : J s W' :=
  h s W W' none hJ (grownBy_of_below hb) (fun r e => by cases e)

end Go.Proofs.YtmeomhojbobpbaaGreatDoor

/-
  Walks: what the carter and the keeper get.
-/
namespace Go.Proofs.YtmeomhojbobpbaaGreatDoor
open Go.RowKit Lg Go.Sort Go.Shelf

theorem Blk.regrown {W : World} {B : Nat} {cs : Array Value} {t : TypeId} (h : Blk W B cs t) : ∀ j d os, (grow (redrawn W d) os).cell? ⟨B, j, none⟩ = cs[j]? := fun j d os => (h.below' (below_regrown W d os)).cell j

theorem own_below {W W' : World} {base : Nat} {e : TypeId} {k : Nat} {v : Value} {n : Nat} {xs : List Value} (h : W.ownsRow base e k v n xs) (hb : RowKit.Below W.heap.size W W') : W'.ownsRow base e k v n xs := by
  refine h.kept (grownBy_of_below hb) ?_
  cases v.ownBlock
  · exact .inl rfl
  · exact .inr (by simp)

theorem own_set {W : World} {base B : Nat} {e : TypeId} {k : Nat} {v : Value} {n : Nat} {xs : List Value} (h : W.ownsRow base e k v n xs) (hB : B < base) (o : Nat) (u : Value) : (W.setCell ⟨B, o, none⟩ u).ownsRow base e k v n xs := by
  refine World.ownsRow.kept h (grownBy_setCells W B o [u]) ?_
  cases hv : v.ownBlock with
  | none => exact .inl rfl
  | some g =>
    have := own_ge h g hv
    exact .inr (by simp; omega)

end Go.Proofs.YtmeomhojbobpbaaGreatDoor

/-
  Walk: the hours from which rates are.
-/
namespace Go.Proofs.YtmeomhojbobpbaaGreatDoor
open Go.RowKit Lg Go.Sort Go.Shelf

/-- A call hands back a new list of numbers. -/
def GivesI (w : World) (xs : List Int) (en : Ending) (w' : World) : Prop :=
  ∃ v, en = .returned v ∧ w'.ownsRow w.heap.size 3 1 v xs.length (xs.map (Value.int .i64)) ∧ RowKit.Below w.heap.size w w'

theorem own_ge' {W : World} {base : Nat} {e : TypeId} {k : Nat} {v : Value} {n : Nat} {xs : List Value} (h : W.ownsRow base e k v n xs) : ∀ r, v.ownBlock = some r → base ≤ r := fun r hr => (h.lt r hr).1

end Go.Proofs.YtmeomhojbobpbaaGreatDoor

/-
  Walk: sums as shares, by ascending parties.
-/
namespace Go.Proofs.YtmeomhojbobpbaaGreatDoor
open Go.RowKit Lg Go.Sort Go.Shelf Go.Maps

end Go.Proofs.YtmeomhojbobpbaaGreatDoor

/-
  Walks: merged, mergeable, Change.
-/
namespace Go.Proofs.YtmeomhojbobpbaaGreatDoor
open Go.RowKit Lg Go.Sort Go.Shelf Go.Maps

theorem OwnM.made (w : World) : OwnM w.heap.size 0 (fun _ => 0) (w.alloc (.map #[] 0)) := ⟨_, World.ownsMap_made _ _ _ _, MapF.empty⟩

end Go.Proofs.YtmeomhojbobpbaaGreatDoor

/-
  What comes in: lists of the program's structs, opened to plain lists.
-/
namespace Go.Proofs.YtmeomhojbobpbaaGreatDoor
open Go.RowKit Lg Go.ChangeShapes Go.WideShapes Go.Deep

theorem gather {α : Type} {Q : Nat → α → Prop} : ∀ n : Nat, (∀ i, i < n → ∃ z, Q i z) → ∃ zs : List α, zs.length = n ∧ ∀ i x, zs[i]? = some x → Q i x
  | 0, _ => ⟨[], rfl, fun i x h => by simp at h⟩
  | n + 1, h => by
    obtain ⟨zs, hl, hz⟩ := gather n (fun i hi => h i (by omega))
    obtain ⟨z, hq⟩ := h n (by omega)
    refine ⟨zs ++ [z], by simp [hl], fun i x hx => ?_⟩
    by_cases hi : i < n
    · rw [List.getElem?_append_left (by omega)] at hx
      exact hz i x hx
    · rw [List.getElem?_append_right (by omega)] at hx
      obtain rfl : i = n := by
        have := (List.getElem?_eq_some_iff.1 hx).1
        simp at this; omega
      simp [hl] at hx
      subst hx
      exact hq

section
variable {H : Type} {enc : TypeId × Value → H} {w : World} {spare : Nat → Bool} {held : Bool}

theorem one_cell {t : TypeId} {cs : List Value} {x : DataW H × List MemPlace} {n : Nat} {o : Option (DataW H × List MemPlace)} (hu : Tryz.prog.underlying t = some (.int .i64)) (h : DataW.trod enc Tryz.prog w 0 spare held n t cs = o) (ho : o = some x) : ∃ z : Int, cs = [.int .i64 z] ∧ (Lit.int .i64 z).wf = true := by
  obtain ⟨z, h1, _, h3⟩ := DataW.trod_int hu (h.trans ho)
  exact ⟨z, h1, h3⟩

theorem open_lst {α : Type} (en : α → List Value) (ok : α → Prop) {t e : TypeId} {k fuel : Nat} {a : Option Addr} {l c : Nat} {x : DataW H × List MemPlace} (ht : Tryz.prog.underlying t = some (.slice e)) (hk : Tryz.prog.cellsOf e = k) (hk0 : 0 < k) (hen : ∀ z, (en z).length = k)
    (hd : ∀ n cs y, cs.length = k → DataW.trod enc Tryz.prog w 0 spare held n e cs = some y → ∃ z : α, cs = en z ∧ ok z)
    (h : DataW.trod enc Tryz.prog w 0 spare held fuel t [.slice a l c] = some x) : ∃ zs : List α, Lst w k en a l c zs ∧ ∀ z ∈ zs, ok z := by
  rcases open_slice ht h with ⟨hcs, _⟩ | ⟨ad, len, cap, m, n, D, Pl, hcs, _, hl, hm, hmm, _, hi⟩
  · simp at hcs
    obtain ⟨rfl, rfl, rfl⟩ := hcs
    exact ⟨[], Lst.nil _ _ _, fun z hz => by cases hz⟩
  · simp at hcs
    obtain ⟨rfl, rfl, rfl⟩ := hcs
    have hml : l ≤ m := by rw [hmm]; split <;> omega
    rw [hk] at hi
    have hz : ∀ i, i < l → ∃ z, (∀ j v, (en z)[j]? = some v → w.cell? ((ad.add (i * k)).add j) = some v) ∧ ok z := fun i hil => by
      obtain ⟨cs', hc, ht'⟩ := hi i (by omega)
      obtain ⟨_, hcl, hat⟩ := World.cells?_some hc
      obtain ⟨z, rfl, hok⟩ := hd n cs' _ hcl ht'
      refine ⟨z, fun j v hv => ?_, hok⟩
      rw [hat j (by rw [← hcl]; exact (List.getElem?_eq_some_iff.1 hv).1)]
      exact hv
    obtain ⟨zs, hlen, hq⟩ := gather l hz
    refine ⟨zs, ⟨hlen, hl, hm, fun i x hx => ?_⟩, fun z hz => ?_⟩
    · have hil : i < l := by rw [← hlen]; exact (List.getElem?_eq_some_iff.1 hx).1
      have h0 : ∃ z0, zs[0]? = some z0 := ⟨zs[0]'(by omega), by simp⟩
      obtain ⟨z0, hz0⟩ := h0
      obtain ⟨b, off, sp⟩ := ad
      have hsp : sp = none := by
        have h1 := (hq 0 z0 hz0).1 0 ((en z0)[0]'(by rw [hen]; exact hk0)) (by simp)
        simpa [Addr.add] using World.cell?_spot h1
      subst hsp
      have hr : w.rangeAt b (off + i * k) (en x) := fun j v hv => by
        have h1 := (hq i x hx).1 j v hv
        rw [Addr.add_mid, Addr.add_mid] at h1
        exact h1
      refine ⟨b, off, rfl, ?_, hr⟩
      have h1 := (hq i x hx).1 0 ((en x)[0]'(by rw [hen]; exact hk0)) (by simp)
      rw [Addr.add_mid, Addr.add_mid] at h1
      exact block_lt_of_cell h1
    · obtain ⟨i, hi2⟩ := List.getElem?_of_mem hz
      exact (hq i z hi2).2

set_option maxRecDepth 100000 in
theorem dec_F (n : Nat) (cs : List Value) (y : DataW H × List MemPlace) (hl : cs.length = 2) (h : DataW.trod enc Tryz.prog w 0 spare held n 25 cs = some y) : ∃ z : Frac, cs = cF z := by
  obtain ⟨ys, m, _, _, _, hy, hf⟩ := DataW.trod_struct Tryz.underlying25 h
  have g0 : DataW.trod enc Tryz.prog w 0 spare held m 3 ((cs.drop 0).take (Tryz.prog.cellsOf 3)) = ys[0]? := hf 0 _ rfl
  have g1 : DataW.trod enc Tryz.prog w 0 spare held m 3 ((cs.drop 1).take (Tryz.prog.cellsOf 3)) = ys[1]? := hf 1 _ rfl
  clear hf h
  have e : Tryz.prog.cellsOf 3 = 1 := by kernel_rfl
  simp only [e] at g0 g1
  obtain ⟨z0, h0, _⟩ := one_cell Tryz.underlying3 g0 (List.getElem?_eq_getElem (by rw [hy]; decide))
  obtain ⟨z1, h1, _⟩ := one_cell Tryz.underlying3 g1 (List.getElem?_eq_getElem (by rw [hy]; decide))
  clear g0 g1
  match cs, hl with
  | [c0, c1], _ =>
    simp at h0 h1
    subst h0 h1
    exact ⟨⟨z0, z1⟩, rfl⟩

set_option maxRecDepth 100000 in
theorem dec_T (n : Nat) (cs : List Value) (y : DataW H × List MemPlace) (hl : cs.length = 3) (h : DataW.trod enc Tryz.prog w 0 spare held n 66 cs = some y) : ∃ z : Title, cs = cT z ∧ True := by
  obtain ⟨ys, m, _, _, _, hy, hf⟩ := DataW.trod_struct Tryz.underlying66 h
  have g0 : DataW.trod enc Tryz.prog w 0 spare held m 3 ((cs.drop 0).take (Tryz.prog.cellsOf 3)) = ys[0]? := hf 0 _ rfl
  have g1 : DataW.trod enc Tryz.prog w 0 spare held m 25 ((cs.drop 1).take (Tryz.prog.cellsOf 25)) = ys[1]? := hf 1 _ rfl
  clear hf h
  have e : Tryz.prog.cellsOf 3 = 1 := by kernel_rfl
  have e3 : Tryz.prog.cellsOf 25 = 2 := by kernel_rfl
  simp only [e, e3] at g0 g1
  obtain ⟨z0, h0, _⟩ := one_cell Tryz.underlying3 g0 (List.getElem?_eq_getElem (by rw [hy]; decide))
  obtain ⟨z1, h1⟩ := dec_F _ _ _ (by simp [hl]) (g1.trans (List.getElem?_eq_getElem (by rw [hy]; decide)))
  clear g0 g1
  match cs, hl with
  | [c0, c1, c2], _ =>
    simp at h0 h1
    obtain ⟨h11, h12⟩ := h1
    subst h0 h11 h12
    exact ⟨⟨z0, z1⟩, rfl, trivial⟩

end
end Go.Proofs.YtmeomhojbobpbaaGreatDoor

/-
  Walks: the reference's WriteSale.
-/
namespace Go.Proofs.YtmeomhojbobpbaaGreatDoor
open Go.RowKit Lg Go.Sort Go.Shelf

theorem Lst.ofI {W : World} {B : Nat} {t : TypeId} (xs : List Int) (hl : xs.length ≤ 20) (k : Blk W B (xs.map (Value.int .i64)).toArray t) : Lst W 1 cI (some ⟨B, 0, none⟩) xs.length xs.length xs :=
  ⟨rfl, Nat.le_refl _, by unfold maxLen; omega, fun i y hx => by
    refine ⟨B, 0, rfl, k.lt, fun j u hu => ?_⟩
    have hj : j = 0 := by have := (List.getElem?_eq_some_iff.1 hu).1; simp at this; omega
    subst hj
    simp only [cI, List.getElem?_cons_zero, Option.some.injEq] at hu
    rw [show 0 + i * 1 + 0 = i by omega, k.cell i, List.getElem?_toArray, List.getElem?_map, hx, ← hu]; rfl⟩

theorem Blk.new1 (W : World) (o : Obj) (t : TypeId) (cs : Array Value) : Blk ((W.alloc o).alloc (.cells cs t)) (W.heap.size + 1) cs t := by
  have := Blk.new (W.alloc o) t cs
  simpa using this
theorem Blk.new2 (W : World) (o p : Obj) (t : TypeId) (cs : Array Value) : Blk (((W.alloc o).alloc p).alloc (.cells cs t)) (W.heap.size + 1 + 1) cs t := by
  have := Blk.new ((W.alloc o).alloc p) t cs
  simpa using this
theorem Blk.new3 (W : World) (o p q : Obj) (t : TypeId) (cs : Array Value) : Blk ((((W.alloc o).alloc p).alloc q).alloc (.cells cs t)) (W.heap.size + 1 + 1 + 1) cs t := by
  have := Blk.new (((W.alloc o).alloc p).alloc q) t cs
  simpa using this

/-- Words behind blanks. -/
def tailL : List Bs → Bs
  | [] => []
  | w :: r => 32 :: w ++ tailL r

theorem lineL_cons (x : Bs) (r : List Bs) : lineL (x :: r) = x ++ tailL r := by
  induction r generalizing x with
  | nil => simp [lineL, tailL]
  | cons y r ih => rw [lineL, ih, tailL]; simp

theorem numsL_tail (l : List Int) : numsL l = tailL (l.map nm) := by
  induction l with
  | nil => rfl
  | cons n r ih => simp [numsL, tailL, ih]

theorem add_ok {a b c : Bs} (h : c = a ++ b) (ha : a.length ≤ 1000) (hb : b.length ≤ 1000) (W : World) : (Op.stringOp .add (ofL a) (ofL b)).run Tryz.prog W = .ok (.string (ofL c)) W := by
  rw [run_string_add_sum (P := Tryz.prog) W (ofL a) (ofL b) (by rw [ofL_size, ofL_size]; omega), ofL_append, h]

end Go.Proofs.YtmeomhojbobpbaaGreatDoor

/-
  Walks: which shares can be merged; the change between two lists.
-/
namespace Go.Proofs.YtmeomhojbobpbaaGreatDoor
open Go.RowKit Lg Go.Sort Go.Shelf Go.Maps

end Go.Proofs.YtmeomhojbobpbaaGreatDoor

/-
  Plain laws: equal parts add up; sums of shares; more money; the change between two lists.
-/
namespace Lg
open Go

/-! ### Equal parts -/
/-! ### Sums of shares -/
def total : List Share → Int
  | [] => 0
  | x :: r => x.pence + total r

/-- The sum of f over the parties below n. -/
def over (f : Int → Int) : Nat → Int
  | 0 => 0
  | n + 1 => over f n + f n

theorem over_zero (n : Nat) : over (fun _ => 0) n = 0 := by
  induction n with
  | zero => rfl
  | succ n ih => rw [over, ih]; omega

/-! ### Awards -/
/-! ### Change -/
end Lg

/-
  Plain functions: the reference's sums of shares.
-/
namespace Lg
open Go

end Lg

/-
  Walks: the reference's sums of shares; Merge.
-/
namespace Go.Proofs.YtmeomhojbobpbaaGreatDoor
open Go.RowKit Lg Go.Sort Go.Shelf Go.Maps

/-! ### A list behind a row of the call's own -/
theorem run_append_list {α : Type} (w : World) (t ty : TypeId) (base : Nat) (e : TypeId) (i : TypeInfo) (z : Value) (size bytes : Nat) (ht : Tryz.prog.underlying t = some (.slice e)) (hi : Tryz.prog.info? e = some i) (hz : i.zero = some z)
    (hsize : i.size = size) (hby : i.bytes = bytes) (hzs : z.cells.size = size) (hsz : 0 < size) (v : Value) (n : Nat) (xs : List Value) (hown : w.ownsRow base e size v n xs)
    (enc : α → List Value) (hen : ∀ x, (enc x).length = size) (hone : ∀ x, ∀ u ∈ enc x, u.oneCell' = true) (a : Option Addr) (m c : Nat) (zs : List α) (hM : Lst w size enc a m c zs)
    (h63 : n + m ≤ maxLen) (hbytes : (n + m) * bytes ≤ 140737488355328) (hbase : base ≤ w.heap.size) :
    ∃ v' w', (Builtin.append_ #[t, t] ty #[v, .slice a m c]).run Tryz.prog w = .ok v' w' ∧ w'.ownsRow base e size v' (n + m) (xs ++ zs.flatMap enc) ∧ w.grownBy w' v.ownBlock := by
  by_cases hm : m = 0
  · subst hm
    have hz0 : zs = [] := List.eq_nil_of_length_eq_zero hM.len
    subst hz0
    have hs : Src Tryz.prog i.size t (.slice a 0 c) 0 [] w := by
      cases a with
      | none => exact Src.ofNil w ht c
      | some ad => exact Src.ofSlice w ht ad 0 c [] (by simp) (fun j u h => by simp at h) (fun u h => by cases h)
    obtain ⟨sa, sn, sc, hv, hle⟩ : ∃ sa sn sc, v = .slice sa sn sc ∧ sn ≤ sc := by
      rcases hown.2 with ⟨hv, _⟩ | ⟨g, cap, cur, hv, _, _, h1, _⟩
      · exact ⟨none, 0, 0, hv, Nat.le_refl _⟩
      · exact ⟨_, n, cap, hv, h1⟩
    subst hv
    exact ⟨_, w, run_append_nothing w t t ty e i ht hi sa sn sc hle _ hs, by simpa using hown, World.grownBy.refl w _⟩
  · have hne : ∃ x, zs[0]? = some x := ⟨zs[0]'(by rw [hM.len]; omega), by simp⟩
    obtain ⟨x0, hx0⟩ := hne
    obtain ⟨b, off, rfl, _, _⟩ := hM.at_ 0 x0 hx0
    obtain ⟨g, cap, w', hr, h2, h3, _, _⟩ := run_append_lies (P := Tryz.prog) w t ty base e i z size bytes ht hi hz hsize hby hzs hsz v n xs hown ⟨b, off, none⟩ m c (zs.flatMap enc) (by rw [flat_len enc size hen, hM.len])
      (fun j u hj => by
        have := hM.cells hen j u hj
        rw [Addr.add_mid]; exact this)
      (flat_one enc hone zs) (by omega) h63 hbytes hbase _ rfl
    exact ⟨_, w', hr, h2, h3⟩

theorem wpList_append_list {α : Type} {ops : Array Oper} {rest : List Oper} {o : Oper} {a : Act} {w : World} {Q : Exit → Act → World → Prop} (hgd : o.guard = none) (s x : Operand) (t : TypeId)
    (ho : o.op = .call { callee := .builtin .append, args := #[s, x], argTypes := #[t, t] })
    (base : Nat) (e : TypeId) (i : TypeInfo) (z : Value) (size bytes : Nat) (ht : Tryz.prog.underlying t = some (.slice e)) (hi : Tryz.prog.info? e = some i) (hz : i.zero = some z)
    (hsize : i.size = size) (hby : i.bytes = bytes) (hzs : z.cells.size = size) (hsz : 0 < size) (v : Value) (n : Nat) (xs : List Value) (hs : a.eval s = v) (hown : w.ownsRow base e size v n xs)
    (enc : α → List Value) (hen : ∀ x, (enc x).length = size) (hone : ∀ x, ∀ u ∈ enc x, u.oneCell' = true) (b : Option Addr) (m c : Nat) (zs : List α) (hx : a.eval x = .slice b m c) (hM : Lst w size enc b m c zs)
    (h63 : n + m ≤ maxLen) (hbytes : (n + m) * bytes ≤ 140737488355328) (hbase : base ≤ w.heap.size)
    (h : ∀ v' w', w'.ownsRow base e size v' (n + m) (xs ++ zs.flatMap enc) → w.grownBy w' v.ownBlock → wpList Tryz.prog ops Q rest (a.put o.dst v') w') : wpList Tryz.prog ops Q (o :: rest) a w :=
  wpList_plain hgd fun _ hK => by
    obtain ⟨v', w', hr, h2, h3⟩ := run_append_list w t o.type base e i z size bytes ht hi hz hsize hby hzs hsz v n xs hown enc hen hone b m c zs hM h63 hbytes hbase
    unfold Oper.wp execOp
    simp only [ho, resolve, invoke, builtin, Sem.run_bind, Sem.run_pure, Result.andThen_ok, List.map_toArray, List.map_cons, List.map_nil, hs, hx, hr]
    exact hK _ _ (h v' w' h2 h3)

/-! ### Sums -/
end Go.Proofs.YtmeomhojbobpbaaGreatDoor

/-
  Walks: the reference's cutting of a line.
-/
namespace Go.Proofs.YtmeomhojbobpbaaGreatDoor
open Go.RowKit Lg Go.Sort Go.Shelf

abbrev cW (x : ByteArray) : List Value := [.string x]

theorem infoW : (Tryz.prog.info? 9).map (fun i => (i.zero, i.size, i.bytes)) = some (some (.string ⟨#[]⟩), 1, 16) := by kernel_rfl

theorem cW_one (x : ByteArray) : ∀ u ∈ cW x, u.oneCell' = true := by
  intro u hu
  simp only [cW, List.mem_singleton] at hu
  subst hu
  rfl

theorem Lst.oneW {W : World} {B : Nat} {x : ByteArray} {t : TypeId} (k : Blk W B #[.string x] t) : Lst W 1 cW (some ⟨B, 0, none⟩) 1 1 [x] :=
  ⟨rfl, Nat.le_refl _, by unfold maxLen; omega, fun i y hx => by
    have hi : i = 0 := by have := (List.getElem?_eq_some_iff.1 hx).1; simp at this; exact this
    subst hi
    obtain rfl : x = y := by simpa using hx
    refine ⟨B, 0, rfl, k.lt, fun j u hu => ?_⟩
    rw [show 0 + 0 * 1 + j = j by omega, k.cell j]
    simpa using hu⟩

end Go.Proofs.YtmeomhojbobpbaaGreatDoor

/-
  The cells of a list of words.
-/
namespace Go.Proofs.YtmeomhojbobpbaaGreatDoor
open Go.RowKit Lg Go.Sort Go.Shelf

theorem Lst.wordCells {w : World} {a : Option Addr} {n c : Nat} {ws : List ByteArray} (h : Lst w 1 cW a n c ws) (hn : 0 < n) : ∃ b off, a = some ⟨b, off, none⟩ ∧ b < w.heap.size ∧ ∀ i s, ws[i]? = some s → w.cell? ⟨b, off + i, none⟩ = some (.string s) := by
  obtain ⟨s0, h0⟩ : ∃ s, ws[0]? = some s := ⟨ws[0]'(by rw [h.len]; exact hn), by simp⟩
  obtain ⟨b, off, ha, hb, _⟩ := h.at_ 0 s0 h0
  refine ⟨b, off, ha, hb, fun i s hi => ?_⟩
  obtain ⟨b2, o2, ha2, _, hr⟩ := h.at_ i s hi
  rw [ha] at ha2
  obtain ⟨rfl, rfl⟩ : b = b2 ∧ off = o2 := by injection ha2 with e; injection e with e1 e2; exact ⟨e1, e2⟩
  have := hr 0 _ rfl
  simpa using this

end Go.Proofs.YtmeomhojbobpbaaGreatDoor

/-
  Walks: the predicate inside counting, at sales.
-/
namespace Go.Proofs.YtmeomhojbobpbaaGreatDoor
open Go.RowKit Lg Go.Sort

end Go.Proofs.YtmeomhojbobpbaaGreatDoor

/-
  The iterator over what counts, at sales.
-/
namespace Go.Proofs.YtmeomhojbobpbaaGreatDoor
open Go.RowKit Lg Go.Sort Go.Shelf

attribute [local go_sem] Oper.semAt_some

end Go.Proofs.YtmeomhojbobpbaaGreatDoor

/-
  A region that draws its order inside a loop over an iterator: one walk, in the order of the text.
-/
namespace Go.Proofs.YtmeomhojbobpbaaGreatDoor
open Go.RowKit Lg Go.Sort

section
variable {P : Program} {ops : Array Oper} {md : Region.Mode} {C : World → Prop} {r n : Nat}

end

end Go.Proofs.YtmeomhojbobpbaaGreatDoor

/-
  Walk: the counting sale of a parcel.
-/
namespace Go.Proofs.YtmeomhojbobpbaaGreatDoor
open Go.RowKit Lg Go.Sort Go.Shelf

attribute [local go_sem] Oper.semAt_some

end Go.Proofs.YtmeomhojbobpbaaGreatDoor
