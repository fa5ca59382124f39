import Derived.Test.YtmeomhojbobpbaaGreatDoorPart08
import Derived.Test.YtmeomhojbobpbaaGreatDoorPart16
import Derived.Shelf.SlGeneric
import Derived.Shelf.Slices.Turned
import Derived.Shelf.Slices.Equal
import Derived.Shelf.Slices.Empties2
import Derived.Shelf.SlSortCmp.InsertionK
import Derived.Ground.SlsfProg
import Derived.Ground.Names2Prog
import Derived.Test.YtmeomhojbobpbaaGreatDoorProg
/-
  The words of a line: how many, which kind.
-/
namespace Go.Proofs.YtmeomhojbobpbaaGreatDoor
open Go.RowKit Lg Go.Sort Go.Shelf

theorem splitW_map (line : ByteArray) : (Lib.splitB ⟨#[32]⟩ 0 (Lib.countB line ⟨#[32]⟩) line).map (fun s => s.data.toList) = cutL line.data.toList := by
  have h2 := Lib.splitB_data ⟨#[32]⟩ 0 (Lib.countB line ⟨#[32]⟩) line
  rw [h2, ← splitK_cut]

theorem splitW_len (line : ByteArray) : (Lib.splitB ⟨#[32]⟩ 0 (Lib.countB line ⟨#[32]⟩) line).length = Lib.countB line ⟨#[32]⟩ + 1 := by
  have := congrArg List.length (splitW_map line)
  rw [List.length_map, cutL_len] at this
  exact this

theorem splitW_size (line : ByteArray) : ∀ s ∈ Lib.splitB ⟨#[32]⟩ 0 (Lib.countB line ⟨#[32]⟩) line, s.size ≤ line.size := by
  intro s hs
  have h1 : s.data.toList ∈ cutL line.data.toList := by rw [← splitW_map]; exact List.mem_map.2 ⟨s, hs, rfl⟩
  have h2 := cutL_size line.data.toList s.data.toList h1
  rw [Array.length_toList, Array.length_toList] at h2
  exact h2

theorem count_le (line : ByteArray) : Lib.countB line ⟨#[32]⟩ ≤ line.size := by
  have h : ∀ s : Bs, (cutL s).length ≤ s.length + 1 := by
    intro s
    induction s with
    | nil => simp [cutL]
    | cons c r ih =>
      unfold cutL
      split
      · simp; exact ih
      · split <;> simp_all; omega
  have h1 := h line.data.toList
  rw [cutL_len, Array.length_toList] at h1
  have h2 : Lib.countB line ⟨#[32]⟩ = Go.Lib.count line.data.toList [32] := by simp [Lib.countB]
  have h3 : line.data.size = line.size := rfl
  omega

theorem idx_kind (x : ByteArray) : Lib.idxOfS [ofL paidL, ofL soldL, ofL leftL, ofL claimL, ofL withdrawL, ofL voidL] x + 1 = kindOf x.data.toList := by
  have e : ∀ l : Bs, (ofL l = x) = (x.data.toList = l) := fun l => by
    refine propext ⟨fun h => by rw [← h], fun h => by rw [← h]⟩
  unfold kindOf
  simp only [Lib.idxOfS, Lib.idxFromS, e]
  repeat' split
  all_goals first | rfl | simp_all

theorem kindOf_bd (s : Bs) : 0 ≤ kindOf s ∧ kindOf s ≤ 6 := by
  unfold kindOf
  repeat' split
  all_goals decide

theorem word_void (x : ByteArray) : decide (x = ofL voidL) = decide (x.data.toList = voidL) := by
  congr 1
  exact propext ⟨fun h => by rw [h], fun h => by rw [← h]⟩

theorem parse_more (ws : List Bs) {kd : Int} (h : ¬ ws.length ≤ atD ws) (hk : kindOf (ws.getD (atD ws) []) = kd) : parseD ws = if kd = 5 ∨ kd = 6 then ⟨numD ws 0, numD ws 1, if atD ws = 3 then numD ws 2 else 0, kd, 0, 0, 0, 0, ⟨0, 0⟩, numD ws (atD ws + 1)⟩
    else ⟨numD ws 0, numD ws 1, if atD ws = 3 then numD ws 2 else 0, kd, numD ws (atD ws + 1), numD ws (atD ws + 2), numD ws (atD ws + 3), if kd = 4 then 0 else numD ws (atD ws + 4), if kd = 1 ∨ kd = 2 then ⟨numD ws (atD ws + 5), numD ws (atD ws + 6)⟩ else ⟨0, 0⟩, 0⟩ := by
  unfold parseD
  rw [if_neg h, hk]

end Go.Proofs.YtmeomhojbobpbaaGreatDoor

/-
  DERIVED: THE SHELF's CONTRACTS AT THIS DUMP, IN PLAIN WORDS (tools/lay-plain.mjs out of 'YtmeomhojbobpbaaGreatDoorShE.lean', which tools/lay-shelf.mjs wrote): THE SAME DECLARATIONS UNDER THE SAME NAMES: 'import', 'namespace', 'open', 'def', 'theorem' AND NOTHING ELSE: no command of the shelf's: FOR A HAND-IN. Each laying: the table of numbers ('.._ren') and one theorem, a field a fact of the dump's own or the kernel's comparison; each contract: ONE APPLICATION.
-/
namespace Go.Proofs
open Go.Shelf
def Tryz.lays107_ren : Go.Shelf.Ren := ⟨fun | 107 => 36 | 108 => 98 | n => n, fun | 28 => 30 | 3 => 3 | 4 => 4 | 0 => 0 | n => n, fun | n => n⟩
theorem Tryz.lays107 : Go.Proofs.Lays.n107 Tryz.prog Tryz.lays107_ren := {
  mixed := by kernel_rfl
  f107 := Tryz.func36.trans (congrArg some (by kernel_rfl))
  f108 := Tryz.func98.trans (congrArg some (by kernel_rfl))
  t0 := Tryz.underlying0
  a0 := Tryz.isAgg0
  z0 := Tryz.sizeOf0
  v0 := Tryz.zeroValue0
  t3 := Tryz.underlying3
  a3 := Tryz.isAgg3
  z3 := Tryz.sizeOf3
  v3 := Tryz.zeroValue3
  t4 := Tryz.underlying4
  a4 := Tryz.isAgg4
  z4 := Tryz.sizeOf4
  v4 := Tryz.zeroValue4
  t28 := Tryz.underlying30
  a28 := Tryz.isAgg30
  z28 := Tryz.sizeOf30
  v28 := Tryz.zeroValue30 }
def Tryz.lays109_ren : Go.Shelf.Ren := ⟨fun | 109 => 141 | n => n, fun | 31 => 100 | 9 => 9 | 3 => 3 | 0 => 0 | 4 => 4 | n => n, fun | n => n⟩
theorem Tryz.lays109 : Go.Proofs.Lays.n109 Tryz.prog Tryz.lays109_ren := {
  mixed := by kernel_rfl
  f109 := Tryz.func141.trans (congrArg some (by kernel_rfl))
  t0 := Tryz.underlying0
  a0 := Tryz.isAgg0
  z0 := Tryz.sizeOf0
  v0 := Tryz.zeroValue0
  t3 := Tryz.underlying3
  a3 := Tryz.isAgg3
  z3 := Tryz.sizeOf3
  v3 := Tryz.zeroValue3
  t4 := Tryz.underlying4
  a4 := Tryz.isAgg4
  z4 := Tryz.sizeOf4
  v4 := Tryz.zeroValue4
  t9 := Tryz.underlying9
  a9 := Tryz.isAgg9
  z9 := Tryz.sizeOf9
  v9 := Tryz.zeroValue9
  t31 := Tryz.underlying100
  a31 := Tryz.isAgg100
  z31 := Tryz.sizeOf100
  v31 := Tryz.zeroValue100 }
def Tryz.lays111_ren : Go.Shelf.Ren := ⟨fun | 111 => 19 | n => n, fun | 28 => 30 | 3 => 3 | 4 => 4 | 0 => 0 | n => n, fun | n => n⟩
theorem Tryz.lays111 : Go.Proofs.Lays.n111 Tryz.prog Tryz.lays111_ren := {
  mixed := by kernel_rfl
  f111 := Tryz.func19.trans (congrArg some (by kernel_rfl))
  t0 := Tryz.underlying0
  a0 := Tryz.isAgg0
  z0 := Tryz.sizeOf0
  v0 := Tryz.zeroValue0
  t3 := Tryz.underlying3
  a3 := Tryz.isAgg3
  z3 := Tryz.sizeOf3
  v3 := Tryz.zeroValue3
  t4 := Tryz.underlying4
  a4 := Tryz.isAgg4
  z4 := Tryz.sizeOf4
  v4 := Tryz.zeroValue4
  t28 := Tryz.underlying30
  a28 := Tryz.isAgg30
  z28 := Tryz.sizeOf30
  v28 := Tryz.zeroValue30 }
def Tryz.insDeed_ren : Go.Shelf.Ren := ⟨fun | 20 => 233 | n => n, fun | 24 => 36 | 22 => 42 | 3 => 3 | 25 => 171 | 4 => 4 | 0 => 0 | n => n, fun | n => n⟩
theorem Tryz.insDeed : Go.Proofs.SlLaysF0.n20 Tryz.prog Tryz.insDeed_ren := {
  mixed := by kernel_rfl
  f20 := ⟨Tryz.f233.name, by decide, Tryz.func233.trans (congrArg some (by kernel_rfl))⟩
  t0 := Tryz.underlying0
  a0 := Tryz.isAgg0
  z0 := Tryz.sizeOf0
  v0 := Tryz.zeroValue0
  t3 := Tryz.underlying3
  a3 := Tryz.isAgg3
  z3 := Tryz.sizeOf3
  v3 := Tryz.zeroValue3
  t4 := Tryz.underlying4
  a4 := Tryz.isAgg4
  z4 := Tryz.sizeOf4
  v4 := Tryz.zeroValue4
  t22 := Tryz.underlying42
  a22 := Tryz.isAgg42
  z22 := Tryz.sizeOf42
  v22 := Tryz.zeroValue42
  t25 := Tryz.underlying171
  a25 := Tryz.isAgg171
  z25 := Tryz.sizeOf171
  v25 := Tryz.zeroValue171 }
end Go.Proofs
