import Derived.Test.YtmeomhojbobpbaaGreatDoorPart22
import Derived.Test.YtmeomhojbobpbaaGreatDoorPart19
import Derived.Test.YtmeomhojbobpbaaGreatDoorPart03
/-
  Small facts of fractions for the laws of the chapter.
-/
namespace Go.Proofs.YtmeomhojbobpbaaGreatDoor
open Go.RowKit Lg Go.Sort Go.Shelf

theorem eqlFf (x : Frac) (w : World) : (binOp .eql 25 (aF x) (aF x)).run Tryz.prog w = .ok (.bool true) w := by
  rw [eqF, decide_eq_true rfl]

theorem neqFf (x : Frac) (w : World) : (binOp .neq 25 (aF x) (aF x)).run Tryz.prog w = .ok (.bool false) w := by
  have h := eqF x x w
  rw [run_eql_struct] at h
  rw [run_neq_struct]
  cases hr : (Op.equalIn 10000 25 (aF x) (aF x)).run Tryz.prog w with
  | ok b w' =>
    rw [hr] at h
    simp only [Result.andThen] at h ⊢
    simp only [Result.ok.injEq, Value.bool.injEq] at h
    rw [h.1, h.2]; simp
  | halt e w' => rw [hr] at h; simp [Result.andThen] at h

theorem addO_eq (a b : Frac) : addO a b = addF a b := by
  unfold addO addF plusO lowF
  (repeat' split) <;> simp_all
theorem subO_eq (a b : Frac) : subO a b = subF a b := by
  unfold subO subF
  rw [← addO_eq]
  unfold addO
  rw [validF_neg]
theorem mulO_eq (a b : Frac) : mulO a b = mulF a b := rfl

end Go.Proofs.YtmeomhojbobpbaaGreatDoor
