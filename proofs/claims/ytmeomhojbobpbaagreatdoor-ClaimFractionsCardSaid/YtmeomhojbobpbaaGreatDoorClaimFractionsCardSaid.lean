/-
  Proved: the tied card of the law ClaimFractions: it answers true at every input, panics never and changes nothing that came in; taking the listed library variables as the program's text lays them.
-/
import Derived.Test.YtmeomhojbobpbaaGreatDoorRows
import Derived.Test.YtmeomhojbobpbaaGreatDoorCards
import Derived.Test.YtmeomhojbobpbaaGreatDoorTie
import Derived.Test.YtmeomhojbobpbaaGreatDoorPart48
import Derived.Test.YtmeomhojbobpbaaGreatDoorPart43
import Derived.WalkKit
import Derived.ProofKit
import Derived.OpenShut
import Derived.ShutString
import Derived.ChangeOld
import Derived.Below
import Derived.HandedShaped
import Derived.Lay
import Derived.SevenTiedAt
namespace Go.Proofs.YtmeomhojbobpbaaGreatDoor.claimFractions
open Go.ChangeShapes Go.WideShapes Go.ChangeAt Go.RowKit
open Go.ChangeMaps (open_string shut_string)
open Lg

theorem own : ownKnob Tryz.prog.godebug = none := by kernel_rfl
theorem laidOut : laidOutB Tryz.prog = true := by kernel_rfl

set_option maxRecDepth 100000 in
theorem lifted (os : Os) (started : os.Started) (H : Type) (enc : TypeId × Value → H) :
    ReturnsInHanded {} Tryz.checked os 13 .any (fun w args => (Rows.claimFractionsSpec.pre enc Tryz.prog Tryz.f13 [] false w args ∧ laidMetH Tryz.prog Rows.claimFractionsRow.laid w) ∧ sizedMet enc Tryz.prog Tryz.f13 (OpenSpec.ofChange Rows.claimFractionsSpec) false w args)
      (Rows.claimFractionsSpec.post enc Tryz.prog Tryz.f13 false true false false) := by
  refine shaped_and (C := Tryz.checked) (X := fun w _ => laidMetH Tryz.prog Rows.claimFractionsRow.laid w) (fun _ _ _ hh h => h.of_heap hh) own started (by kernel_rfl) Tryz.func13
    (ChangeSpec.witness_shaped (enc := enc) (C := Tryz.checked) (os := os) (X := fun w _ => laidMetH Tryz.prog Rows.claimFractionsRow.laid w) false (World.laidAll Tryz.prog os Rows.claimFractionsRow.laid) #[.int .i64 0, .int .i64 0, .agg #[.int .i64 0, .int .i64 0], .agg #[.int .i64 0, .int .i64 0]] 8 (World.laidAll_os _ _ _)
      (World.shaped_of_ZipB (by kernel_rfl) (by kernel_rfl)) (by kernel_rfl) (by kernel_rfl) (by kernel_rfl)
      (by rw [MakeChecks.laidMetH_plain _ _ _ (by kernel_rfl)]; exact laidMet_laidAll _ (by kernel_rfl) (by kernel_rfl))) ?_
  intro W base args ds gs before hval0 hW hL hS
  have hval : ∀ (j : Nat) t v, Tryz.f13.params[j]? = some t → args[j]? = some v → Value.okWide Tryz.prog W .any base t v := hval0
  rw [MakeChecks.laidMetH_plain _ _ _ (by kernel_rfl)] at hL
  have hVs := vs_of_laidK hL hS
  clear hL hS
  have hW' := hW
  obtain ⟨p, q, hA0, hV, rfl, hfz, hnd⟩ := hW
  have hA : DataW.TrodAll enc Tryz.prog W 0 (fun _ => true) true Tryz.f13.params.toList args.toList ds p := hA0
  rw [Tryz.params13] at hA hval
  obtain ⟨v0, vs0, d0, ds0, p0, q0, hargs, rfl, rfl, h0, r0⟩ := trodAll_cons hA
  obtain ⟨v1, vs1, d1, ds1, p1, q1, rfl, rfl, rfl, h1, r1⟩ := trodAll_cons r0
  obtain ⟨v2, vs2, d2, ds2, p2, q2, rfl, rfl, rfl, h2, r2⟩ := trodAll_cons r1
  obtain ⟨v3, vs3, d3, ds3, p3, q3, rfl, rfl, rfl, h3, r3⟩ := trodAll_cons r2
  obtain ⟨rfl, rfl, rfl⟩ := trodAll_nil r3
  obtain rfl : args = #[v0, v1, v2, v3] := by cases args; simp_all
  obtain ⟨rfl, rfl⟩ := trodVars_none hV
  have k0 := h0
  have lt0 : ∀ x ∈ p0, x.block < W.heap.size := by obtain ⟨m, hm⟩ := k0; exact DataW.trod_lt m _ _ _ hm
  have k1 := h1
  have lt1 : ∀ x ∈ p1, x.block < W.heap.size := by obtain ⟨m, hm⟩ := k1; exact DataW.trod_lt m _ _ _ hm
  have k2 := h2
  have lt2 : ∀ x ∈ p2, x.block < W.heap.size := by obtain ⟨m, hm⟩ := k2; exact DataW.trod_lt m _ _ _ hm
  have k3 := h3
  have lt3 : ∀ x ∈ p3, x.block < W.heap.size := by obtain ⟨m, hm⟩ := k3; exact DataW.trod_lt m _ _ _ hm
  obtain ⟨a0, rfl⟩ := okWide_int Tryz.underlying3 (hval 0 3 v0 rfl rfl)
  obtain ⟨a1, rfl⟩ := okWide_int Tryz.underlying3 (hval 1 3 v1 rfl rfl)
  obtain ⟨b2, rfl, hb2⟩ := okWide_struct Tryz.underlying25 (hval 2 25 v2 rfl rfl)
  obtain ⟨z2, rfl⟩ : ∃ z : Frac, b2 = (cF z).toArray := by
    obtain ⟨fuel, hf⟩ := h2
    obtain ⟨z, hz, _⟩ := dec_F2 _ _ _ (by show b2.toList.length = 2; rw [Array.length_toList, hb2]; kernel_rfl) hf
    have hz : b2.toList = cF z := hz
    exact ⟨z, by rw [← hz, Array.toArray_toList]⟩
  obtain ⟨b3, rfl, hb3⟩ := okWide_struct Tryz.underlying25 (hval 3 25 v3 rfl rfl)
  obtain ⟨z3, rfl⟩ : ∃ z : Frac, b3 = (cF z).toArray := by
    obtain ⟨fuel, hf⟩ := h3
    obtain ⟨z, hz, _⟩ := dec_F2 _ _ _ (by show b3.toList.length = 2; rw [Array.length_toList, hb3]; kernel_rfl) hf
    have hz : b3.toList = cF z := hz
    exact ⟨z, by rw [← hz, Array.toArray_toList]⟩
  clear hA0 hval0
  refine (lawFractions_any a0 a1 z2 z3 W (frac_range (hval 3 25 _ rfl rfl)) hVs).mono fun e W' ⟨he, bel⟩ => ?_
  subst he
  exact ⟨_, rfl, _, _, _, [], _, [], hW', trodAll_mk1 (shut_bool Tryz.underlying4 _), (trodAll_cons_mk (Below.trod laidOut (by kernel_rfl) (of_decide_eq_true (by kernel_rfl)) k0 bel lt0) (trodAll_cons_mk (Below.trod laidOut (by kernel_rfl) (of_decide_eq_true (by kernel_rfl)) k1 bel lt1) (trodAll_cons_mk (Below.trod laidOut (by kernel_rfl) (of_decide_eq_true (by kernel_rfl)) k2 bel lt2) (trodAll_cons_mk (Below.trod laidOut (by kernel_rfl) (of_decide_eq_true (by kernel_rfl)) k3 bel lt3) trodAll_mk0)))), rfl, bel.frame _, fun h => by cases h⟩

theorem over : Rows.claimFractionsRow.holds Tryz.pinned (OpenSpec.ofChange Rows.claimFractionsSpec) :=
  OpenClaim.holds_of_wide 13 Tryz.f13 rfl rfl rfl rfl rfl rfl rfl ⟨rfl, rfl, rfl, rfl, rfl⟩ rfl rfl rfl rfl rfl (by kernel_rfl) Tryz.func13 (by kernel_rfl)
    (of_decide_eq_true (by kernel_rfl)) (by unfold Func.isWrapper; first | (rw [if_pos (by decide +kernel)]; kernel_rfl) | (rw [if_neg (by decide +kernel)]; exact ⟨rfl, rfl⟩))
    (fun os started H enc _ => lifted os started H enc)

/-- The tied card. -/
theorem proved : Rows.ClaimFractionsCardSaid :=
  Claim7.holds_tied_plain_at .later [] [.data, .data, .data, .data, .sentinel, .sentinel, .pinned] true (true, "eea07cc34dd4f8ff0093a9ec986f7dca4c6619cad35284781fff088d8ff66766") true
    over (fun _ h => by cases h) (by kernel_rfl) (fun _ h => by cases h) claimFractions_row_tie rfl ⟨rfl, rfl⟩ (by kernel_rfl) rfl
    (fun f fn hf hfn => by
      obtain rfl : f = 13 := Option.some.inj ((show Tryz.prog.funcNamed "lagan/laganlaw05.ClaimFractions" = some 13 by kernel_rfl).symm.trans hf) |>.symm
      obtain rfl : fn = Tryz.f13 := (Option.some.inj (Tryz.func13.symm.trans hfn)).symm
      exact ⟨by kernel_rfl, fun j t ht => by
        rw [Tryz.params13] at ht
        have hm : t ∈ [3, 3, 25, 25] := by simpa using Array.mem_of_getElem? ht
        have hall : ([3, 3, 25, 25].all fun u => !Tryz.prog.wantsStandIn u) = true := by kernel_rfl
        exact (show Tryz.prog.wantsStandIn t = false by simpa using List.all_eq_true.1 hall t hm)⟩)
    (by kernel_rfl)
#print axioms proved
end Go.Proofs.YtmeomhojbobpbaaGreatDoor.claimFractions
