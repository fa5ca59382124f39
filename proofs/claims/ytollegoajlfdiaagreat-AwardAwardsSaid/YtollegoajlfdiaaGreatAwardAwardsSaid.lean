/-
  Proved: the law AwardAwards answers true at every input, panics never and changes nothing that came in; no condition.
-/
import Derived.Test.YtollegoajlfdiaaGreatRows
import Derived.Test.YtollegoajlfdiaaGreatPart44
import Derived.Test.YtollegoajlfdiaaGreatPart24
import Derived.WalkKit
import Derived.ProofKit
import Derived.OpenShut
import Derived.ShutString
import Derived.ChangeOld
import Derived.Below
namespace Go.Proofs.YtollegoajlfdiaaGreat.awardAwards
open Go.ChangeShapes Go.WideShapes Go.ChangeAt Go.RowKit
open Go.ChangeMaps (open_string shut_string)
open Lg

theorem own : ownKnob Tryz.prog.godebug = none := by kernel_rfl
theorem laidOut : laidOutB Tryz.prog = true := by kernel_rfl

set_option maxRecDepth 100000 in
theorem lifted (os : Os) (started : os.Started) (H : Type) (enc : TypeId × Value → H) :
    ReturnsInHanded {} Tryz.checked os 8 .any (Rows.awardAwardsSpec.pre6 enc Tryz.prog Tryz.f8 Rows.awardAwardsRow.domain false) (Rows.awardAwardsSpec.post enc Tryz.prog Tryz.f8 false true false false) := by
  refine returnsInHanded_of_change (C := Tryz.checked) own started (by kernel_rfl) Tryz.func8
    (ChangeSpec.witness6 (enc := enc) (C := Tryz.checked) false ⟨#[], #[.agg #[.int .i64 0, .int .i64 0, .int .i64 0, .string ⟨#[]⟩, .int .i64 0, .int .i64 0, .int .i64 0, .int .i64 0, .int .i64 0], .agg #[.int .i64 0, .int .i64 0, .int .i64 0, .int .i64 0, .int .i64 0, .int .i64 0, .int .i64 0, .int .i64 0, .int .i64 0], .slice none 0 0, .slice none 0 0, .int .i64 0, .string ⟨#[]⟩, .int .i64 0, .int .i64 0, .slice none 0 0, .int .i64 0], []⟩ 8 (by kernel_rfl) (by kernel_rfl) (by kernel_rfl) (by kernel_rfl)) ?_
  intro W base args ds gs before hval0 hW hcnd _
  have hval : ∀ (j : Nat) t v, Tryz.f8.params[j]? = some t → args[j]? = some v → Value.okWide Tryz.prog W .any base t v := hval0
  have hW' := hW
  obtain ⟨p, q, hA0, hV, rfl, hfz, hnd⟩ := hW
  have hA : DataW.TrodAll enc Tryz.prog W 0 (fun _ => true) true Tryz.f8.params.toList args.toList ds p := hA0
  rw [Tryz.params8] at hA hval
  obtain ⟨v0, vs0, d0, ds0, p0, q0, hargs, rfl, rfl, h0, r0⟩ := trodAll_cons hA
  obtain ⟨v1, vs1, d1, ds1, p1, q1, rfl, rfl, rfl, h1, r1⟩ := trodAll_cons r0
  obtain ⟨v2, vs2, d2, ds2, p2, q2, rfl, rfl, rfl, h2, r2⟩ := trodAll_cons r1
  obtain ⟨v3, vs3, d3, ds3, p3, q3, rfl, rfl, rfl, h3, r3⟩ := trodAll_cons r2
  obtain ⟨v4, vs4, d4, ds4, p4, q4, rfl, rfl, rfl, h4, r4⟩ := trodAll_cons r3
  obtain ⟨v5, vs5, d5, ds5, p5, q5, rfl, rfl, rfl, h5, r5⟩ := trodAll_cons r4
  obtain ⟨v6, vs6, d6, ds6, p6, q6, rfl, rfl, rfl, h6, r6⟩ := trodAll_cons r5
  obtain ⟨v7, vs7, d7, ds7, p7, q7, rfl, rfl, rfl, h7, r7⟩ := trodAll_cons r6
  obtain ⟨v8, vs8, d8, ds8, p8, q8, rfl, rfl, rfl, h8, r8⟩ := trodAll_cons r7
  obtain ⟨v9, vs9, d9, ds9, p9, q9, rfl, rfl, rfl, h9, r9⟩ := trodAll_cons r8
  obtain ⟨rfl, rfl, rfl⟩ := trodAll_nil r9
  obtain rfl : args = #[v0, v1, v2, v3, v4, v5, v6, v7, v8, v9] := by cases args; simp_all
  obtain ⟨rfl, rfl⟩ := trodVars_none hV
  have k0 := h0
  have lt0 : ∀ x ∈ p0, x.block < W.heap.size := by obtain ⟨m, hm⟩ := k0; exact DataW.trod_lt m _ _ _ hm
  have k1 := h1
  have lt1 : ∀ x ∈ p1, x.block < W.heap.size := by obtain ⟨m, hm⟩ := k1; exact DataW.trod_lt m _ _ _ hm
  have k2 := h2
  have lt2 : ∀ x ∈ p2, x.block < W.heap.size := by obtain ⟨m, hm⟩ := k2; exact DataW.trod_lt m _ _ _ hm
  have k3 := h3
  have lt3 : ∀ x ∈ p3, x.block < W.heap.size := by obtain ⟨m, hm⟩ := k3; exact DataW.trod_lt m _ _ _ hm
  have k4 := h4
  have lt4 : ∀ x ∈ p4, x.block < W.heap.size := by obtain ⟨m, hm⟩ := k4; exact DataW.trod_lt m _ _ _ hm
  have k5 := h5
  have lt5 : ∀ x ∈ p5, x.block < W.heap.size := by obtain ⟨m, hm⟩ := k5; exact DataW.trod_lt m _ _ _ hm
  have k6 := h6
  have lt6 : ∀ x ∈ p6, x.block < W.heap.size := by obtain ⟨m, hm⟩ := k6; exact DataW.trod_lt m _ _ _ hm
  have k7 := h7
  have lt7 : ∀ x ∈ p7, x.block < W.heap.size := by obtain ⟨m, hm⟩ := k7; exact DataW.trod_lt m _ _ _ hm
  have k8 := h8
  have lt8 : ∀ x ∈ p8, x.block < W.heap.size := by obtain ⟨m, hm⟩ := k8; exact DataW.trod_lt m _ _ _ hm
  have k9 := h9
  have lt9 : ∀ x ∈ p9, x.block < W.heap.size := by obtain ⟨m, hm⟩ := k9; exact DataW.trod_lt m _ _ _ hm
  obtain ⟨b0, rfl, hb0⟩ := okWide_struct Tryz.underlying26 (hval 0 26 v0 rfl rfl)
  obtain ⟨z0, rfl⟩ : ∃ z : Rate, b0 = (cR z).toArray := by
    obtain ⟨fuel, hf⟩ := h0
    obtain ⟨z, hz, _⟩ := dec_R _ _ _ (by show b0.toList.length = 9; rw [Array.length_toList, hb0]; kernel_rfl) hf
    have hz : b0.toList = cR z := hz
    exact ⟨z, by rw [← hz, Array.toArray_toList]⟩
  obtain ⟨b1, rfl, hb1⟩ := okWide_struct Tryz.underlying39 (hval 1 39 v1 rfl rfl)
  obtain ⟨z1, rfl⟩ : ∃ z : Sale, b1 = (cS z).toArray := by
    obtain ⟨fuel, hf⟩ := h1
    obtain ⟨z, hz, _⟩ := dec_S _ _ _ (by show b1.toList.length = 9; rw [Array.length_toList, hb1]; kernel_rfl) hf
    have hz : b1.toList = cS z := hz
    exact ⟨z, by rw [← hz, Array.toArray_toList]⟩
  obtain ⟨a2, l2, c2, rfl⟩ := okWide_slice Tryz.underlying22 (hval 2 22 v2 rfl rfl)
  obtain ⟨z2, w2, _⟩ : ∃ zs : List Rate, Lst W 9 cR a2 l2 c2 zs ∧ ∀ z ∈ zs, True := by
    obtain ⟨fuel, hf⟩ := h2
    exact open_lst cR (fun z => True) Tryz.underlying22 (by kernel_rfl) (by omega) (fun _ => rfl) dec_R hf
  obtain ⟨a3, l3, c3, rfl⟩ := okWide_slice Tryz.underlying54 (hval 3 54 v3 rfl rfl)
  obtain ⟨z3, w3, _⟩ : ∃ zs : List Sale, Lst W 9 cS a3 l3 c3 zs ∧ ∀ z ∈ zs, True := by
    obtain ⟨fuel, hf⟩ := h3
    exact open_lst cS (fun z => True) Tryz.underlying54 (by kernel_rfl) (by omega) (fun _ => rfl) dec_S hf
  obtain ⟨a4, rfl⟩ := okWide_int Tryz.underlying3 (hval 4 3 v4 rfl rfl)
  obtain ⟨a5, rfl⟩ := okWide_string Tryz.underlying9 (hval 5 9 v5 rfl rfl)
  obtain ⟨a6, rfl⟩ := okWide_int Tryz.underlying3 (hval 6 3 v6 rfl rfl)
  obtain ⟨a7, rfl⟩ := okWide_int Tryz.underlying3 (hval 7 3 v7 rfl rfl)
  obtain ⟨a8, l8, c8, rfl⟩ := okWide_slice Tryz.underlying35 (hval 8 35 v8 rfl rfl)
  obtain ⟨z8, w8, _⟩ : ∃ zs : List Int, Lst W 1 cI a8 l8 c8 zs ∧ ∀ z ∈ zs, True := by
    obtain ⟨fuel, hf⟩ := h8
    exact open_lst cI (fun z => True) Tryz.underlying35 (by kernel_rfl) (by omega) (fun _ => rfl) dec_I hf
  obtain ⟨a9, rfl⟩ := okWide_int Tryz.underlying3 (hval 9 3 v9 rfl rfl)
  clear hA0 hval0
  refine (lawAwards_any z0 z1 a2 l2 c2 z2 a3 l3 c3 z3 a4 a5 a6 a7 a8 l8 c8 z8 a9 W w2 w3 w8).mono fun e W' ⟨he, bel⟩ => ?_
  subst he
  exact ⟨_, rfl, _, _, _, [], _, [], hW', trodAll_mk1 (shut_bool Tryz.underlying4 _), (trodAll_cons_mk (Below.trod laidOut (by kernel_rfl) (of_decide_eq_true (by kernel_rfl)) k0 bel lt0) (trodAll_cons_mk (Below.trod laidOut (by kernel_rfl) (of_decide_eq_true (by kernel_rfl)) k1 bel lt1) (trodAll_cons_mk (Below.trod laidOut (by kernel_rfl) (of_decide_eq_true (by kernel_rfl)) k2 bel lt2) (trodAll_cons_mk (Below.trod laidOut (by kernel_rfl) (of_decide_eq_true (by kernel_rfl)) k3 bel lt3) (trodAll_cons_mk (Below.trod laidOut (by kernel_rfl) (of_decide_eq_true (by kernel_rfl)) k4 bel lt4) (trodAll_cons_mk (Below.trod laidOut (by kernel_rfl) (of_decide_eq_true (by kernel_rfl)) k5 bel lt5) (trodAll_cons_mk (Below.trod laidOut (by kernel_rfl) (of_decide_eq_true (by kernel_rfl)) k6 bel lt6) (trodAll_cons_mk (Below.trod laidOut (by kernel_rfl) (of_decide_eq_true (by kernel_rfl)) k7 bel lt7) (trodAll_cons_mk (Below.trod laidOut (by kernel_rfl) (of_decide_eq_true (by kernel_rfl)) k8 bel lt8) (trodAll_cons_mk (Below.trod laidOut (by kernel_rfl) (of_decide_eq_true (by kernel_rfl)) k9 bel lt9) trodAll_mk0)))))))))), rfl, bel.frame _, fun h => by cases h⟩

theorem over : Rows.awardAwardsRow.holds Tryz.pinned (OpenSpec.ofChange Rows.awardAwardsSpec) :=
  OpenClaim.holds_of_wide 8 Tryz.f8 rfl rfl rfl rfl rfl rfl rfl ⟨rfl, rfl, rfl, rfl, rfl⟩ rfl rfl rfl rfl rfl (by kernel_rfl) Tryz.func8 (by kernel_rfl)
    (of_decide_eq_true (by kernel_rfl)) (by unfold Func.isWrapper; first | (rw [if_pos (by decide +kernel)]; kernel_rfl) | (rw [if_neg (by decide +kernel)]; exact ⟨rfl, rfl⟩))
    (fun os started H enc _ => lifted os started H enc)

/-- The statement. -/
theorem proved : Rows.AwardAwardsSaid := over
#print axioms proved
end Go.Proofs.YtollegoajlfdiaaGreat.awardAwards
