import Derived.Test.YtmeomhojbobpbaaGreatDoorPart06
import Derived.Test.YtmeomhojbobpbaaGreatDoorRows
import Derived.Shelf.Vars
import Derived.LaidLaws
import Derived.Stop.LaidErr
import Derived.Lib.LaidTab
import Derived.Test.YtmeomhojbobpbaaGreatDoorPart05
import Derived.Test.YtmeomhojbobpbaaGreatDoorPart37
import Derived.Test.YtmeomhojbobpbaaGreatDoorPart08
import Derived.WalkKit
import Derived.ProofKit
import Derived.OpenShut
import Derived.ShutString
import Derived.ChangeOld
import Derived.Below
import Derived.HandedShaped
import Derived.Lay
import Derived.SevenTiedAt
import Derived.Test.YtmeomhojbobpbaaGreatDoorPart02
import Derived.Test.YtmeomhojbobpbaaGreatDoorPart03
import Derived.BigQuiet
/-
  What the rows' lists of variables give.
-/
namespace Go.Proofs.YtmeomhojbobpbaaGreatDoor
open Go.RowKit Lg

theorem row_err : ∀ u, Tryz.prog.typeName? 3 u = some "*errors.errorString" → u = 257 :=
  fun u h => typeName_ptr_named (nm := "errors.errorString") (by kernel_rfl) (by kernel_rfl) (by decide) u h

theorem pow_data : (Rows.laid_internal_strconv_uint64pow10 : DataW Unit) = Lib.tabData .u64 Lib.pow10Tab := by kernel_rfl

theorem vs_of_laidK {W : World} (h : laidMet Tryz.prog Rows.claimSumsRow.laid W) (hS : W.ShapedOpen Tryz.prog) : Vs W := by
  have h3 := h.tail.tail
  have h5 := h3.tail.tail
  have h6 := h5.tail
  have e3 : laidMet Tryz.prog (("internal/strconv.uint64pow10", Lib.tabData .u64 Lib.pow10Tab) :: [("unicode/utf8.acceptRanges", Rows.laid_unicode_utf8_acceptRanges), ("strconv.ErrRange", Rows.laid_strconv_ErrRange), ("strconv.ErrSyntax", Rows.laid_strconv_ErrSyntax), ("unicode/utf8.first", Rows.laid_unicode_utf8_first)]) W := by
    rw [← pow_data]; exact h3
  obtain ⟨a1, s1, hv1, -, -, -⟩ := laid_sentinel h5 (show Tryz.prog.globalNamed "strconv.ErrRange" = some 1 by kernel_rfl) (show (Tryz.prog.globals[1]?).map (·.type) = some 156 by kernel_rfl) Tryz.underlying156 row_err Tryz.underlying257 Tryz.underlying259 rfl rfl Tryz.underlying9 (by kernel_rfl) (by kernel_rfl)
  obtain ⟨a2, s2, hv2, -, -, -⟩ := laid_sentinel h6 (show Tryz.prog.globalNamed "strconv.ErrSyntax" = some 0 by kernel_rfl) (show (Tryz.prog.globals[0]?).map (·.type) = some 156 by kernel_rfl) Tryz.underlying156 row_err Tryz.underlying257 Tryz.underlying259 rfl rfl Tryz.underlying9 (by kernel_rfl) (by kernel_rfl)
  refine ⟨?_, ?_, ?_, ?_⟩
  · exact Lib.tabIs_of_head tab_named (show (Tryz.prog.globals[2]?).map (·.type) = some 253 by kernel_rfl) Tryz.underlying253 Tryz.underlying210 (by kernel_rfl) (by kernel_rfl) e3
  · have := World.var?_cell (show Tryz.prog.globalNamed "strconv.ErrSyntax" = some 0 by kernel_rfl) hv2 0
    exact ⟨_, by simpa using this, .inr ⟨_, _, rfl⟩⟩
  · have := World.var?_cell (show Tryz.prog.globalNamed "strconv.ErrRange" = some 1 by kernel_rfl) hv1 0
    exact ⟨_, by simpa using this, .inr ⟨_, _, rfl⟩⟩
  · exact Tryz.laysM146.s1_3 W hS

end Go.Proofs.YtmeomhojbobpbaaGreatDoor

/-
  What comes in: lists of fractions and deeds, lists of lists of titles, opened to plain lists.
-/
namespace Go.Proofs.YtmeomhojbobpbaaGreatDoor
open Go.RowKit Lg Go.ChangeShapes Go.WideShapes Go.Deep

section
variable {H : Type} {enc : TypeId × Value → H} {w : World} {spare : Nat → Bool} {held : Bool}

theorem dec_F2 (n : Nat) (cs : List Value) (y : DataW H × List MemPlace) (hl : cs.length = 2) (h : DataW.trod enc Tryz.prog w 0 spare held n 25 cs = some y) : ∃ z : Frac, cs = cF z ∧ True := by
  obtain ⟨z, hz⟩ := dec_F n cs y hl h
  exact ⟨z, hz, trivial⟩

set_option maxRecDepth 100000 in
theorem dec_D (n : Nat) (cs : List Value) (y : DataW H × List MemPlace) (hl : cs.length = 11) (h : DataW.trod enc Tryz.prog w 0 spare held n 36 cs = some y) : ∃ z : Deed, cs = cD z ∧ True := by
  obtain ⟨ys, m, _, _, _, hy, hf⟩ := DataW.trod_struct Tryz.underlying36 h
  have g0 : DataW.trod enc Tryz.prog w 0 spare held m 3 ((cs.drop 0).take (Tryz.prog.cellsOf 3)) = ys[0]? := hf 0 _ rfl
  have g1 : DataW.trod enc Tryz.prog w 0 spare held m 3 ((cs.drop 1).take (Tryz.prog.cellsOf 3)) = ys[1]? := hf 1 _ rfl
  have g2 : DataW.trod enc Tryz.prog w 0 spare held m 3 ((cs.drop 2).take (Tryz.prog.cellsOf 3)) = ys[2]? := hf 2 _ rfl
  have g3 : DataW.trod enc Tryz.prog w 0 spare held m 5 ((cs.drop 3).take (Tryz.prog.cellsOf 5)) = ys[3]? := hf 3 _ rfl
  have g4 : DataW.trod enc Tryz.prog w 0 spare held m 3 ((cs.drop 4).take (Tryz.prog.cellsOf 3)) = ys[4]? := hf 4 _ rfl
  have g5 : DataW.trod enc Tryz.prog w 0 spare held m 3 ((cs.drop 5).take (Tryz.prog.cellsOf 3)) = ys[5]? := hf 5 _ rfl
  have g6 : DataW.trod enc Tryz.prog w 0 spare held m 3 ((cs.drop 6).take (Tryz.prog.cellsOf 3)) = ys[6]? := hf 6 _ rfl
  have g7 : DataW.trod enc Tryz.prog w 0 spare held m 3 ((cs.drop 7).take (Tryz.prog.cellsOf 3)) = ys[7]? := hf 7 _ rfl
  have g8 : DataW.trod enc Tryz.prog w 0 spare held m 25 ((cs.drop 8).take (Tryz.prog.cellsOf 25)) = ys[8]? := hf 8 _ rfl
  have g9 : DataW.trod enc Tryz.prog w 0 spare held m 3 ((cs.drop 10).take (Tryz.prog.cellsOf 3)) = ys[9]? := hf 9 _ rfl
  clear hf h
  have e : Tryz.prog.cellsOf 3 = 1 := by kernel_rfl
  have e2 : Tryz.prog.cellsOf 5 = 1 := by kernel_rfl
  have e3 : Tryz.prog.cellsOf 25 = 2 := by kernel_rfl
  simp only [e, e2, e3] at g0 g1 g2 g3 g4 g5 g6 g7 g8 g9
  obtain ⟨z0, h0, _⟩ := one_cell Tryz.underlying3 g0 (List.getElem?_eq_getElem (by rw [hy]; decide))
  obtain ⟨z1, h1, _⟩ := one_cell Tryz.underlying3 g1 (List.getElem?_eq_getElem (by rw [hy]; decide))
  obtain ⟨z2, h2, _⟩ := one_cell Tryz.underlying3 g2 (List.getElem?_eq_getElem (by rw [hy]; decide))
  obtain ⟨z3, h3, _, _⟩ := DataW.trod_int Tryz.underlying5 (g3.trans (List.getElem?_eq_getElem (by rw [hy]; decide)))
  obtain ⟨z4, h4, _⟩ := one_cell Tryz.underlying3 g4 (List.getElem?_eq_getElem (by rw [hy]; decide))
  obtain ⟨z5, h5, _⟩ := one_cell Tryz.underlying3 g5 (List.getElem?_eq_getElem (by rw [hy]; decide))
  obtain ⟨z6, h6, _⟩ := one_cell Tryz.underlying3 g6 (List.getElem?_eq_getElem (by rw [hy]; decide))
  obtain ⟨z7, h7, _⟩ := one_cell Tryz.underlying3 g7 (List.getElem?_eq_getElem (by rw [hy]; decide))
  obtain ⟨z8, h8⟩ := dec_F _ _ _ (by simp [hl]) (g8.trans (List.getElem?_eq_getElem (by rw [hy]; decide)))
  obtain ⟨z9, h9, _⟩ := one_cell Tryz.underlying3 g9 (List.getElem?_eq_getElem (by rw [hy]; decide))
  clear g0 g1 g2 g3 g4 g5 g6 g7 g8 g9
  match cs, hl with
  | [c0, c1, c2, c3, c4, c5, c6, c7, c8, c9, c10], _ =>
    simp at h0 h1 h2 h3 h4 h5 h6 h7 h8 h9
    obtain ⟨h81, h82⟩ := h8
    subst h0 h1 h2 h3 h4 h5 h6 h7 h81 h82 h9
    exact ⟨⟨z0, z1, z2, z3, z4, z5, z6, z7, z8, z9⟩, rfl, trivial⟩

theorem dec_L (n : Nat) (cs : List Value) (y : DataW H × List MemPlace) (_hl : cs.length = 1) (h : DataW.trod enc Tryz.prog w 0 spare held n 57 cs = some y) : ∃ v : Value, cs = [v] ∧ ∃ ai ni ci xs, v = .slice ai ni ci ∧ Lst w 3 cT ai ni ci xs := by
  rcases open_slice Tryz.underlying57 h with ⟨hcs, _⟩ | ⟨ad, len, cap, m, k, D, Pl, hcs, _⟩
  · exact ⟨.slice none 0 0, hcs, none, 0, 0, [], rfl, Lst.nil _ _ _⟩
  · rw [hcs] at h
    obtain ⟨zs, hz, _⟩ := open_lst cT (fun _ => True) Tryz.underlying57 (by kernel_rfl) (by omega) (fun _ => rfl) dec_T h
    exact ⟨_, hcs, _, _, _, zs, rfl, hz⟩

theorem open_L {fuel : Nat} {a : Option Addr} {l c : Nat} {x : DataW H × List MemPlace} (h : DataW.trod enc Tryz.prog w 0 spare held fuel 62 [.slice a l c] = some x) : ∃ xss : List (List Title), LstL w a l c xss := by
  obtain ⟨vs, hvs, hok⟩ := open_lst (k := 1) (fun v => [v]) (fun v => ∃ ai ni ci xs, v = .slice ai ni ci ∧ Lst w 3 cT ai ni ci xs) Tryz.underlying62 (by kernel_rfl) (by omega) (fun _ => rfl) dec_L h
  obtain ⟨xss, hl, hq⟩ := gather (Q := fun i (xs : List Title) => ∀ v, vs[i]? = some v → ∃ ai ni ci, v = .slice ai ni ci ∧ Lst w 3 cT ai ni ci xs) vs.length (fun i hi => by
    obtain ⟨v, hv⟩ : ∃ v, vs[i]? = some v := ⟨vs[i], by simp⟩
    obtain ⟨ai, ni, ci, xs, e, hx⟩ := hok v (List.mem_of_getElem? hv)
    exact ⟨xs, fun u hu => by rw [hv] at hu; cases hu; exact ⟨ai, ni, ci, e, hx⟩⟩)
  exact ⟨xss, vs, hvs, hl.symm, fun i v xs hv hx => hq i xs hx v hv⟩
end
end Go.Proofs.YtmeomhojbobpbaaGreatDoor

/-
  A builder for a row that lists variables, with the world's shape kept.
-/
namespace Go.Proofs.YtmeomhojbobpbaaGreatDoor
open Go.ChangeShapes Go.WideShapes Go.ChangeAt Go.RowKit
open Go.ChangeMaps (open_string shut_string)
open Lg

theorem shaped_and {H : Type} {enc : TypeId × Value → H} {a : Assume} {C : Checked} {os : Os} {f : FuncId} {fn : Func} {s : ChangeSpec} {conds : List PathCond} {apart fresh handsOn again : Bool} {X : World → Array Value → Prop}
    (hX : ∀ (w w' : World) (args : Array Value), w.heap = w'.heap → X w args → X w' args)
    (own : ownKnob C.prog.godebug = none) (started : os.Started) (noInit : C.prog.inits.idxOf? f = none) (hfn : C.prog.funcs[f]? = some fn)
    (witness : ∃ (w : World) (tape : Tape) (i : Input), w.os = os ∧ (w.forCall tape i).Shaped C.prog ∧ i.vars = [] ∧ Input.okWide C.prog (w.forCall tape i) .any w.heap.size f i ∧
      ((s.pre enc C.prog fn conds apart (w.forCall tape i).memory i.args ∧ X (w.forCall tape i).memory i.args) ∧ sizedMet enc C.prog fn (OpenSpec.ofChange s) apart (w.forCall tape i).memory i.args) ∧ a.holds C.prog (lone (Frame.enter C.prog f i.args .normal) [] (w.forCall tape i)))
    (contract : ∀ (W : World) (base : Nat) (args : Array Value) (ds gs : List (DataW H)) (before : List MemPlace),
      (∀ (j : Nat) t v, fn.params[j]? = some t → args[j]? = some v → Value.okWide C.prog W .any base t v) →
      DataW.Whole enc C.prog fn.params.toList s.vars apart W args.toList ds gs before →
      X W args → W.ShapedOpen C.prog →
      Calls C.prog f args W fun e W' => ∃ v, e = .returned v ∧ s.post enc C.prog fn apart fresh handsOn again W args v W') :
    ReturnsInHanded a C os f .any (fun w args => (s.pre enc C.prog fn conds apart w args ∧ X w args) ∧ sizedMet enc C.prog fn (OpenSpec.ofChange s) apart w args) (s.post enc C.prog fn apart fresh handsOn again) := by
  refine returnsInHanded_of_calls own started noInit witness ?_
  intro w tape i _ hsh _ hok hpre hholds
  obtain ⟨_, _, _, fn', hfn', _, _, _, _, hval⟩ := hok
  have e : fn' = fn := Option.some.inj (hfn'.symm.trans hfn)
  subst e
  obtain ⟨⟨⟨ds, gs, before, hw, hc⟩, hx⟩, hz⟩ := hpre
  have hw' := DataW.Whole.of_heap (w' := w.forCall tape i) (by rfl) hw
  refine (contract (w.forCall tape i) w.heap.size i.args ds gs before hval hw' (hX _ _ _ (by rfl) hx) hsh).mono fun e W' ⟨v, he, hp⟩ => ?_
  subst he
  exact ChangeSpec.post_blind hp

end Go.Proofs.YtmeomhojbobpbaaGreatDoor

/-
  Walks: the comparisons of lists.
-/
namespace Go.Proofs.YtmeomhojbobpbaaGreatDoor
open Go.RowKit Lg Go.Sort Go.Shelf

theorem below_drewN' {n : Nat} {a w : World} (h : RowKit.Below n a w) (q : Nat) : RowKit.Below n a (w.drewN q) := ⟨h.os, h.tape, h.output, h.size, h.block⟩

end Go.Proofs.YtmeomhojbobpbaaGreatDoor
