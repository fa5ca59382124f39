import Derived.Test.YtmeomhojbobpbaaGreatDoorPart03
/-
  Small laws on lists in memory (package claim).
-/
namespace Go.Proofs.YtmeomhojbobpbaaGreatDoor
open Go.RowKit Lg Go.Sort Go.Shelf

theorem Lst.pref {α : Type} {w : World} {k : Nat} {enc : α → List Value} {a : Option Addr} {n cap : Nat} {xs : List α} (h : Lst w k enc a n cap xs) (j : Nat) (hj : j ≤ n) : Lst w k enc a j cap (xs.take j) :=
  ⟨by rw [List.length_take, h.len]; omega, Nat.le_trans hj h.le, h.max, fun i x hx => by
    have hi : i < j := by have := (List.getElem?_eq_some_iff.1 hx).1; rw [List.length_take] at this; omega
    rw [List.getElem?_take_of_lt hi] at hx
    exact h.at_ i x hx⟩

theorem Lst.one1 {W : World} {B : Nat} {f : Int} (k : Blk W B #[.int .i64 f] 3) : Lst W 1 cI (some ⟨B, 0, none⟩) 1 1 [f] :=
  ⟨rfl, Nat.le_refl _, by unfold maxLen; omega, fun i x hx => by
    have hi : i = 0 := by have := (List.getElem?_eq_some_iff.1 hx).1; simp at this; exact this
    subst hi
    obtain rfl : f = x := by simpa using hx
    refine ⟨B, 0, rfl, k.lt, fun j u hu => ?_⟩
    have hj : j = 0 := by have := (List.getElem?_eq_some_iff.1 hu).1; simp at this; exact this
    subst hj
    obtain rfl : Value.int .i64 f = u := by simpa using hu
    exact k.cell 0⟩

end Go.Proofs.YtmeomhojbobpbaaGreatDoor
