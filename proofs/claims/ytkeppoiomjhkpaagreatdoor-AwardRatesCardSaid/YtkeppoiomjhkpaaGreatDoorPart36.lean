import Derived.Test.YtkeppoiomjhkpaaGreatDoorPart05
import Derived.Test.YtkeppoiomjhkpaaGreatDoorPart01
/-
  Walks: cmp.Or at two texts, the second one "all".
-/
namespace Go.Proofs.YtkeppoiomjhkpaaGreatDoor
open Go.RowKit Lg Go.Sort

set_option maxRecDepth 100000 in
set_option maxHeartbeats 1600000 in
theorem or_any (B : Nat) (g : ByteArray) (W : World) (k : Blk W B #[.string g, .string allS] 9) :
    Calls Tryz.prog 60 #[.slice (some ⟨B, 0, none⟩) 2 2] W fun e w' => e = .returned (.string (if g = ⟨#[]⟩ then allS else g)) ∧ W = w' := by
  have c0 : W.cell? ⟨B, 0, none⟩ = some (.string g) := k.cell 0
  have c1 : W.cell? ⟨B, 1, none⟩ = some (.string allS) := k.cell 1
  clear k
  by_cases h : g = ⟨#[]⟩
  · rw [if_pos h]
    have hge := isEmpty_of_goods h
    have hae : allS.toList.isEmpty = false := isEmpty_of_goods_ne allS_ne
    clear h
    generalize allS = al at *
    go_enter Tryz.func60, Tryz.ntmps60
    go_wp2
    go_loop [8] (fun i => ∃ k : Nat, k ≤ 1 ∧ i = .int .i64 k) (fun i => 2 - (intOf i).toNat)
    case atStart => exact ⟨0, by omega, rfl⟩
    case round =>
      obtain ⟨k, hk, rfl⟩ := hrel
      have : k = 0 ∨ k = 1 := by omega
      rcases this with rfl | rfl
      · go_wp2
        go_round
        case rel => exact ⟨1, by omega, by go_num⟩
        case measure => simp [intOf]
      · go_wp2
        go_ret
        exact ⟨rfl, rfl⟩
  · rw [if_neg h]
    have hge := isEmpty_of_goods_ne h
    clear h
    go_enter Tryz.func60, Tryz.ntmps60
    go_wp2
    go_loop [8] (fun i => i = .int .i64 0) (fun i => 2 - (intOf i).toNat)
    case atStart => rfl
    case round =>
      subst hrel
      go_wp2
      go_ret
      exact ⟨rfl, rfl⟩

end Go.Proofs.YtkeppoiomjhkpaaGreatDoor
