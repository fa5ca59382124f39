import Derived.Shelf.SlGeneric
import Derived.Shelf.Small.Wraps
import Derived.Shelf.Sort.Plain
import Derived.Ground.Names2Prog
import Derived.Shelf.Slices.Clone
import Derived.Shelf.Slices.CompactI
import Derived.Shelf.Slices.In.SortNone
import Derived.Ground.SlgnProg
import Derived.Shelf.SlicesE.Clone
import Derived.Ground.SlsfProg
import Derived.Shelf.SlSortCmp.Insertion1
import Derived.Shelf.SlIterI.Nil
import Derived.Shelf.SortM.Plain
import Derived.Shelf.SortM.SortNone
import Derived.Ground.GgzProg
import Derived.Ground.SlgmProg
import Derived.Test.YtkeppoiomjhkpaaGreatDoorProg
import Derived.Test.YtkeppoiomjhkpaaGreatDoorPart06
import Derived.Laws.AppendOwn
import Derived.BigQuiet
/-
  DERIVED: THE SHELF's CONTRACTS AT THIS DUMP, IN PLAIN WORDS (tools/lay-plain.mjs out of 'YtkeppoiomjhkpaaGreatDoorShf.lean', which tools/lay-shelf.mjs wrote): THE SAME DECLARATIONS UNDER THE SAME NAMES: 'import', 'namespace', 'open', 'def', 'theorem' AND NOTHING ELSE: no command of the shelf's: FOR A HAND-IN. Each laying: the table of numbers ('.._ren') and one theorem, a field a fact of the dump's own or the kernel's comparison; each contract: ONE APPLICATION.
-/
namespace Go.Proofs
open Go.Shelf
def Tryz.lays122_ren : Go.Shelf.Ren := ⟨fun | 122 => 109 | 215 => 144 | n => n, fun | 3 => 3 | 4 => 4 | n => n, fun | n => n⟩
theorem Tryz.lays122 : Go.Proofs.Lays.n122 Tryz.prog Tryz.lays122_ren := {
  mixed := by kernel_rfl
  f122 := Tryz.func109.trans (congrArg some (by kernel_rfl))
  f215 := Tryz.func144.trans (congrArg some (by kernel_rfl))
  t3 := Tryz.underlying3
  a3 := Tryz.isAgg3
  z3 := Tryz.sizeOf3
  v3 := Tryz.zeroValue3
  t4 := Tryz.underlying4
  a4 := Tryz.isAgg4
  z4 := Tryz.sizeOf4
  v4 := Tryz.zeroValue4 }
open Go.RowKit in
/-- cmp.Compare at int: "Compare returns -1 if x is less than y, 0 if x equals y, +1 if x is greater than y.": IT RETURNS 'Lib.compareInt x y'; the world is as it was. (LAID: no walk: one application.) -/
theorem Tryz.cmp_Compare_int (x y : Int) (w : World) :
    Calls Tryz.prog 109 #[.int .i64 x, .int .i64 y] w fun e w' => e = .returned (.int .i64 (Lib.compareInt x y)) ∧ w' = w := Any.cmp_Compare_int Tryz.lays122 x y w
def Tryz.lays189_ren : Go.Shelf.Ren := ⟨fun | 189 => 97 | 125 => 135 | 257 => 134 | 128 => 172 | 129 => 173 | 294 => 163 | 295 => 164 | 296 => 165 | 297 => 166 | 298 => 167 | 299 => 168 | 216 => 169 | 300 => 170 | 301 => 171 | 328 => 190 | 329 => 191 | 330 => 192 | 331 => 193 | 332 => 194 | 215 => 144 | 343 => 208 | n => n, fun | 28 => 64 | 3 => 3 | 46 => 183 | 0 => 0 | 51 => 212 | 53 => 214 | 4 => 4 | 183 => 204 | 182 => 203 | 131 => 209 | 5 => 5 | 9 => 9 | 218 => 234 | 222 => 238 | 228 => 249 | 229 => 250 | n => n, fun | n => n⟩
theorem Tryz.lays189 : Go.Proofs.Lays.n189 Tryz.prog Tryz.lays189_ren := {
  mixed := by kernel_rfl
  f125 := Tryz.func135.trans (congrArg some (by kernel_rfl))
  f128 := Tryz.func172.trans (congrArg some (by kernel_rfl))
  f129 := Tryz.func173.trans (congrArg some (by kernel_rfl))
  f189 := Tryz.func97.trans (congrArg some (by kernel_rfl))
  f215 := Tryz.func144.trans (congrArg some (by kernel_rfl))
  f216 := Tryz.func169.trans (congrArg some (by kernel_rfl))
  f257 := Tryz.func134.trans (congrArg some (by kernel_rfl))
  f294 := Tryz.func163.trans (congrArg some (by kernel_rfl))
  f295 := Tryz.func164.trans (congrArg some (by kernel_rfl))
  f296 := Tryz.func165.trans (congrArg some (by kernel_rfl))
  f297 := Tryz.func166.trans (congrArg some (by kernel_rfl))
  f298 := Tryz.func167.trans (congrArg some (by kernel_rfl))
  f299 := Tryz.func168.trans (congrArg some (by kernel_rfl))
  f300 := Tryz.func170.trans (congrArg some (by kernel_rfl))
  f301 := Tryz.func171.trans (congrArg some (by kernel_rfl))
  f328 := Tryz.func190.trans (congrArg some (by kernel_rfl))
  f329 := Tryz.func191.trans (congrArg some (by kernel_rfl))
  f330 := Tryz.func192.trans (congrArg some (by kernel_rfl))
  f331 := Tryz.func193.trans (congrArg some (by kernel_rfl))
  f332 := Tryz.func194.trans (congrArg some (by kernel_rfl))
  f343 := Tryz.func208.trans (congrArg some (by kernel_rfl))
  t0 := Tryz.underlying0
  a0 := Tryz.isAgg0
  z0 := Tryz.sizeOf0
  v0 := Tryz.zeroValue0
  t3 := Tryz.underlying3
  a3 := Tryz.isAgg3
  z3 := Tryz.sizeOf3
  v3 := Tryz.zeroValue3
  t4 := Tryz.underlying4
  a4 := Tryz.isAgg4
  z4 := Tryz.sizeOf4
  v4 := Tryz.zeroValue4
  t5 := Tryz.underlying5
  a5 := Tryz.isAgg5
  z5 := Tryz.sizeOf5
  v5 := Tryz.zeroValue5
  t9 := Tryz.underlying9
  a9 := Tryz.isAgg9
  z9 := Tryz.sizeOf9
  v9 := Tryz.zeroValue9
  t28 := Tryz.underlying64
  a28 := Tryz.isAgg64
  z28 := Tryz.sizeOf64
  v28 := Tryz.zeroValue64
  t46 := Tryz.underlying183
  a46 := Tryz.isAgg183
  z46 := Tryz.sizeOf183
  v46 := Tryz.zeroValue183
  t51 := Tryz.underlying212
  a51 := Tryz.isAgg212
  z51 := Tryz.sizeOf212
  v51 := Tryz.zeroValue212
  t53 := Tryz.underlying214
  a53 := Tryz.isAgg214
  z53 := Tryz.sizeOf214
  v53 := Tryz.zeroValue214
  t131 := Tryz.underlying209
  a131 := Tryz.isAgg209
  z131 := Tryz.sizeOf209
  v131 := Tryz.zeroValue209
  t182 := Tryz.underlying203
  a182 := Tryz.isAgg203
  z182 := Tryz.sizeOf203
  v182 := Tryz.zeroValue203
  t183 := Tryz.underlying204
  a183 := Tryz.isAgg204
  z183 := Tryz.sizeOf204
  v183 := Tryz.zeroValue204
  t218 := Tryz.underlying234
  a218 := Tryz.isAgg234
  z218 := Tryz.sizeOf234
  v218 := Tryz.zeroValue234
  t222 := Tryz.underlying238
  a222 := Tryz.isAgg238
  z222 := Tryz.sizeOf238
  v222 := Tryz.zeroValue238
  t228 := Tryz.underlying249
  a228 := Tryz.isAgg249
  z228 := Tryz.sizeOf249
  v228 := Tryz.zeroValue249
  t229 := Tryz.underlying250
  a229 := Tryz.isAgg250
  z229 := Tryz.sizeOf250
  v229 := Tryz.zeroValue250 }
open Go.Sort Go.RowKit in
theorem Tryz.slices_Sort_int (blk off cap : Nat) (zs : List Int) (w : World) (hH : Holds (Value.int .i64) w blk off zs.toArray) (hblk : blk < w.heap.size) (hsz : zs.length < 4611686018427387904) :
    Calls Tryz.prog 97 #[.slice (some ⟨blk, off, none⟩) zs.length cap] w fun e w' =>
      e = .returned (.tuple #[]) ∧ ∃ n os, w' = grow (putRow (Value.int .i64) (Sort.ahead w n) blk off (zs.mergeSort fun x y => decide (x ≤ y)).toArray) os := Any.slices_Sort_int Tryz.lays189 blk off cap zs w hH hblk hsz
def Tryz.laysNm215_ren : Go.Shelf.Ren := ⟨fun | 15 => 142 | n => n, fun | 22 => 64 | 3 => 3 | 4 => 4 | n => n, fun | n => n⟩
theorem Tryz.laysNm215 : Go.Proofs.Lays2.n15 Tryz.prog Tryz.laysNm215_ren := {
  mixed := by kernel_rfl
  f15 := Tryz.func142.trans (congrArg some (by kernel_rfl))
  t3 := Tryz.underlying3
  a3 := Tryz.isAgg3
  z3 := Tryz.sizeOf3
  v3 := Tryz.zeroValue3
  t4 := Tryz.underlying4
  a4 := Tryz.isAgg4
  z4 := Tryz.sizeOf4
  v4 := Tryz.zeroValue4
  t22 := Tryz.underlying64
  a22 := Tryz.isAgg64
  z22 := Tryz.sizeOf64
  v22 := Tryz.zeroValue64
  i3 := by kernel_rfl }
open Go.RowKit Go.Lib in
/-- slices.Clone at []int: "Clone returns a copy of the slice. The elements are copied using assignment, so this is a shallow clone. The result may have additional unused capacity. The result preserves the nilness of s.": OF A SLICE THAT IS NOT nil IT RETURNS A SLICE THAT IS NOT nil, OF THE SAME ELEMENTS, IN MEMORY OF THE CALL's OWN: in the how-to's words (6f): 'w'.ownsRow B e 1 v' n cells': v' begins at the head of a row among the blocks from B on (B: the heap's size at the call), not frozen, whose first cells are the elements · 'Below B w w'': below B all is as it was. The capacity is whatever the run-time gives. 'zs': what the cells behind the slice's address hold; 'zs.take n': its elements. (LAID: no walk: one application.) -/
theorem Tryz.slices_Clone_int (b off n c : Nat) (zs : List Int) (w : World) (hz : n ≤ zs.length) (hbig : n * 8 ≤ 140737488355328) (hc : ∀ j, j < zs.length → w.cell? ⟨b, off + j, none⟩ = some (.int .i64 (zs.getD j 0))) :
    Calls Tryz.prog 142 #[.slice (some ⟨b, off, none⟩) n c] w fun e w' => ∃ v', e = .returned v' ∧ w'.ownsRow w.heap.size 3 1 v' n ((zs.take n).map (Value.int .i64)) ∧ v' ≠ .slice none 0 0 ∧ Below w.heap.size w w' := Any.slices_Clone_int Tryz.laysNm215 b off n c zs w hz hbig hc
open Go.RowKit Go.Lib in
/-- The same at nil: nil comes back; the world is as it was. (LAID: no walk: one application.) -/
theorem Tryz.slices_Clone_int_nil (n c : Nat) (w : World) :
    Calls Tryz.prog 142 #[.slice none n c] w fun e w' => e = .returned (.slice none 0 0) ∧ w' = w := Any.slices_Clone_int_nil Tryz.laysNm215 n c w
open Go.RowKit Go.Lib in
/-- The same at a slice of length 0 that is not nil, WHATEVER ITS ADDRESS (no cell is asked for): a slice that is not nil and owns nothing comes back. (LAID: no walk: one application.) -/
theorem Tryz.slices_Clone_int_zero (a : Addr) (c : Nat) (w : World) :
    Calls Tryz.prog 142 #[.slice (some a) 0 c] w fun e w' => ∃ v', e = .returned v' ∧ w'.ownsRow w.heap.size 3 1 v' 0 [] ∧ v' ≠ .slice none 0 0 ∧ Below w.heap.size w w' := Any.slices_Clone_int_zero Tryz.laysNm215 a c w
def Tryz.laysNm220_ren : Go.Shelf.Ren := ⟨fun | 20 => 98 | n => n, fun | 22 => 64 | 3 => 3 | 4 => 4 | 0 => 0 | n => n, fun | n => n⟩
theorem Tryz.laysNm220 : Go.Proofs.Lays2.n20 Tryz.prog Tryz.laysNm220_ren := {
  mixed := by kernel_rfl
  f20 := Tryz.func98.trans (congrArg some (by kernel_rfl))
  t0 := Tryz.underlying0
  a0 := Tryz.isAgg0
  z0 := Tryz.sizeOf0
  v0 := Tryz.zeroValue0
  t3 := Tryz.underlying3
  a3 := Tryz.isAgg3
  z3 := Tryz.sizeOf3
  v3 := Tryz.zeroValue3
  t4 := Tryz.underlying4
  a4 := Tryz.isAgg4
  z4 := Tryz.sizeOf4
  v4 := Tryz.zeroValue4
  t22 := Tryz.underlying64
  a22 := Tryz.isAgg64
  z22 := Tryz.sizeOf64
  v22 := Tryz.zeroValue64
  i3 := by kernel_rfl }
open Go.RowKit Go.Lib Go.Sort in
/-- slices.Compact at []int: "Compact replaces consecutive runs of equal elements with a single copy. This is like the uniq command found on Unix. Compact modifies the contents of the slice s and returns the modified slice, which may have a smaller length. Compact zeroes the elements between the new length and the original length. The result preserves the nilness of s.": IT RETURNS THE SLICE CUT TO 'Lib.compact zs'; ITS CELLS HOLD 'Lib.compact zs', THEN ZERO VALUES up to the old length; all else is as it was, but for the count of draws. IN THE WORDS OF slices.Sort's CONTRACT ('Holds', 'putRow'): so the everyday 'slices.Sort(xs); xs = slices.Compact(xs)' goes from the one contract to the other. It asks 'zs.length ≤ cap' (every slice's: the reslicing 's[:k]' looks at it). Length 0, nil: '.._empty'. (LAID: no walk: one application.) -/
theorem Tryz.slices_Compact_int (blk off cap : Nat) (zs : List Int) (w : World) (hH : Holds (Value.int .i64) w blk off zs.toArray) (hsz : zs.length ≤ 9223372036854775807) (hcap : zs.length ≤ cap) :
    Calls Tryz.prog 98 #[.slice (some ⟨blk, off, none⟩) zs.length cap] w fun e w' => e = .returned (.slice (some ⟨blk, off, none⟩) (Lib.compact zs).length cap) ∧ ∃ q, w' = putRow (Value.int .i64) (Sort.ahead w q) blk off (Lib.compact zs ++ List.replicate (zs.length - (Lib.compact zs).length) 0).toArray := Any.slices_Compact_int Tryz.laysNm220 blk off cap zs w hH hsz hcap
open Go.RowKit Go.Lib Go.Sort in
/-- The same at a slice of length 0, a nil one too: it comes back as it is. (LAID: no walk: one application.) -/
theorem Tryz.slices_Compact_int_empty (a : Option Addr) (cap : Nat) (w : World) :
    Calls Tryz.prog 98 #[.slice a 0 cap] w fun e w' => e = .returned (.slice a 0 cap) ∧ w' = w := Any.slices_Compact_int_empty Tryz.laysNm220 a cap w
open Go.RowKit Go.Sort in
/-- .. and plain. (LAID: no walk: one application.) -/
theorem Tryz.slices_Sort_int_none (p : Option Addr) (cap : Nat) (w : World) :
    Calls Tryz.prog 97 #[.slice p 0 cap] w fun e w' => e = .returned (.tuple #[]) ∧ w' = w := Any.slices_Sort_int_none Tryz.lays189 p cap w
def Tryz.laysSlF20_f_ren : Go.Shelf.Ren := ⟨fun | 20 => 195 | n => n, fun | 24 => 3 | 22 => 64 | 3 => 3 | 25 => 145 | 4 => 4 | 0 => 0 | n => n, fun | n => n⟩
theorem Tryz.laysSlF20_f : Go.Proofs.SlLaysF.n20 Tryz.prog Tryz.laysSlF20_f_ren := {
  mixed := by kernel_rfl
  f20 := ⟨Tryz.f195.name, by decide, Tryz.func195.trans (congrArg some (by kernel_rfl))⟩
  t0 := Tryz.underlying0
  a0 := Tryz.isAgg0
  z0 := Tryz.sizeOf0
  v0 := Tryz.zeroValue0
  t3 := Tryz.underlying3
  a3 := Tryz.isAgg3
  z3 := Tryz.sizeOf3
  v3 := Tryz.zeroValue3
  t4 := Tryz.underlying4
  a4 := Tryz.isAgg4
  z4 := Tryz.sizeOf4
  v4 := Tryz.zeroValue4
  t22 := Tryz.underlying64
  a22 := Tryz.isAgg64
  z22 := Tryz.sizeOf64
  v22 := Tryz.zeroValue64
  a24 := Tryz.isAgg3
  z24 := Tryz.sizeOf3
  t25 := Tryz.underlying145
  a25 := Tryz.isAgg145
  z25 := Tryz.sizeOf145
  v25 := Tryz.zeroValue145 }
open Go.RowKit Go.Lib Go.Sort in
theorem Tryz.insertionSortCmpFunc_one {α : Type} [Inhabited α] (enc : α → Value) (hO : OneCell enc) (cf : α → α → Int) (g : Nat) (cb : Array Value) (blk off cap a b : Nat) (d : Array α) (w : World) (eg : ∀ args w, (callFunc g args).run Tryz.prog w = .ok (.enter g args) w) (hcmp : CmpReads Tryz.prog g cb enc cf blk off d.size w) (hH : Holds enc w blk off d) (hab : a ≤ b) (hb : b ≤ d.size) (hsz : d.size < 4611686018427387904) :
    Calls Tryz.prog 195 #[.slice (some ⟨blk, off, none⟩) d.size cap, .int .i64 a, .int .i64 b, .func (.func g) #[] cb] w fun e w' =>
      e = .returned (.tuple #[]) ∧ ∃ n, w' = (putRow enc w blk off (Sort.insertionSort (ltOf cf) d a b)).drewN n := Any.insertionSortCmpFunc_one Tryz.laysSlF20_f enc hO cf g cb blk off cap a b d w eg hcmp hH hab hb hsz
def Tryz.cloneRate_ren : Go.Shelf.Ren := ⟨fun | 41 => 59 | n => n, fun | 22 => 39 | 23 => 43 | 4 => 4 | n => n, fun | n => n⟩
theorem Tryz.cloneRate : Go.Proofs.SlLaysE0.n41 Tryz.prog Tryz.cloneRate_ren := {
  mixed := by kernel_rfl
  f41 := ⟨Tryz.f59.name, by decide, Tryz.func59.trans (congrArg some (by kernel_rfl))⟩
  t4 := Tryz.underlying4
  a4 := Tryz.isAgg4
  z4 := Tryz.sizeOf4
  v4 := Tryz.zeroValue4
  t22 := Tryz.underlying39
  a22 := Tryz.isAgg39
  z22 := Tryz.sizeOf39
  v22 := Tryz.zeroValue39 }
def Tryz.keysA_ren : Go.Shelf.Ren := ⟨fun | 7 => 113 | 10 => 147 | n => n, fun | 23 => 122 | 26 => 3 | 3 => 3 | 28 => 162 | 0 => 0 | 27 => 161 | 33 => 152 | 4 => 4 | n => n, fun | n => n⟩
theorem Tryz.keysA : Go.Proofs.SlLaysZI.n7 Tryz.prog Tryz.keysA_ren := {
  mixed := by kernel_rfl
  f7 := ⟨Tryz.f113.name, by decide, Tryz.func113.trans (congrArg some (by kernel_rfl))⟩
  f10 := ⟨Tryz.f147.name, by decide, Tryz.func147.trans (congrArg some (by kernel_rfl))⟩
  t0 := Tryz.underlying0
  a0 := Tryz.isAgg0
  z0 := Tryz.sizeOf0
  v0 := Tryz.zeroValue0
  t4 := Tryz.underlying4
  a4 := Tryz.isAgg4
  z4 := Tryz.sizeOf4
  v4 := Tryz.zeroValue4
  t23 := Tryz.underlying122
  a23 := Tryz.isAgg122
  z23 := Tryz.sizeOf122
  v23 := Tryz.zeroValue122
  t26 := Tryz.underlying3
  a26 := Tryz.isAgg3
  z26 := Tryz.sizeOf3
  v26 := Tryz.zeroValue3
  t27 := Tryz.underlying161
  a27 := Tryz.isAgg161
  z27 := Tryz.sizeOf161
  v27 := Tryz.zeroValue161
  t28 := Tryz.underlying162
  a28 := Tryz.isAgg162
  z28 := Tryz.sizeOf162
  v28 := Tryz.zeroValue162
  t33 := Tryz.underlying152
  a33 := Tryz.isAgg152
  z33 := Tryz.sizeOf152
  v33 := Tryz.zeroValue152 }
def Tryz.sortedA_ren : Go.Shelf.Ren := ⟨fun | 6 => 112 | 8 => 146 | 9 => 97 | 11 => 176 | 13 => 135 | 12 => 134 | 23 => 172 | 24 => 173 | 14 => 163 | 15 => 164 | 16 => 165 | 17 => 166 | 18 => 167 | 19 => 168 | 20 => 169 | 21 => 170 | 22 => 171 | 25 => 190 | 26 => 191 | 27 => 192 | 28 => 193 | 29 => 194 | 30 => 144 | 31 => 208 | n => n, fun | 26 => 3 | 28 => 162 | 24 => 64 | 0 => 0 | 3 => 3 | 37 => 183 | 48 => 212 | 50 => 214 | 4 => 4 | 40 => 204 | 39 => 203 | 45 => 209 | 5 => 5 | 9 => 9 | 51 => 234 | 55 => 238 | 57 => 249 | 58 => 250 | 33 => 152 | n => n, fun | n => n⟩
theorem Tryz.sortedA : Go.Proofs.SlLaysZI.n6 Tryz.prog Tryz.sortedA_ren := {
  mixed := by kernel_rfl
  f6 := ⟨Tryz.f112.name, by decide, Tryz.func112.trans (congrArg some (by kernel_rfl))⟩
  f8 := ⟨Tryz.f146.name, by decide, Tryz.func146.trans (congrArg some (by kernel_rfl))⟩
  f11 := ⟨Tryz.f176.name, by decide, Tryz.func176.trans (congrArg some (by kernel_rfl))⟩
  t0 := Tryz.underlying0
  a0 := Tryz.isAgg0
  z0 := Tryz.sizeOf0
  v0 := Tryz.zeroValue0
  t24 := Tryz.underlying64
  a24 := Tryz.isAgg64
  z24 := Tryz.sizeOf64
  v24 := Tryz.zeroValue64
  t26 := Tryz.underlying3
  a26 := Tryz.isAgg3
  z26 := Tryz.sizeOf3
  v26 := Tryz.zeroValue3
  t28 := Tryz.underlying162
  a28 := Tryz.isAgg162
  z28 := Tryz.sizeOf162
  v28 := Tryz.zeroValue162
  i26 := by kernel_rfl }
def Tryz.sortA_ren : Go.Shelf.Ren := ⟨fun | 5 => 97 | 8 => 135 | 7 => 134 | 19 => 172 | 20 => 173 | 10 => 163 | 11 => 164 | 12 => 165 | 13 => 166 | 14 => 167 | 15 => 168 | 16 => 169 | 17 => 170 | 18 => 171 | 30 => 190 | 31 => 191 | 32 => 192 | 33 => 193 | 34 => 194 | 35 => 144 | 40 => 208 | n => n, fun | 23 => 64 | 25 => 3 | 3 => 3 | 32 => 183 | 22 => 64 | 0 => 0 | 44 => 212 | 46 => 214 | 4 => 4 | 36 => 204 | 35 => 203 | 41 => 209 | 5 => 5 | 9 => 9 | 53 => 234 | 57 => 238 | 63 => 249 | 64 => 250 | n => n, fun | n => n⟩
theorem Tryz.sortA : Go.Proofs.SlLaysM.n5 Tryz.prog Tryz.sortA_ren := {
  mixed := by kernel_rfl
  f5 := ⟨Tryz.f97.name, by decide, Tryz.func97.trans (congrArg some (by kernel_rfl))⟩
  f7 := ⟨Tryz.f134.name, by decide, Tryz.func134.trans (congrArg some (by kernel_rfl))⟩
  f8 := Tryz.func135.trans (congrArg some (by kernel_rfl))
  f10 := ⟨Tryz.f163.name, by decide, Tryz.func163.trans (congrArg some (by kernel_rfl))⟩
  f11 := ⟨Tryz.f164.name, by decide, Tryz.func164.trans (congrArg some (by kernel_rfl))⟩
  f12 := ⟨Tryz.f165.name, by decide, Tryz.func165.trans (congrArg some (by kernel_rfl))⟩
  f13 := ⟨Tryz.f166.name, by decide, Tryz.func166.trans (congrArg some (by kernel_rfl))⟩
  f14 := ⟨Tryz.f167.name, by decide, Tryz.func167.trans (congrArg some (by kernel_rfl))⟩
  f15 := ⟨Tryz.f168.name, by decide, Tryz.func168.trans (congrArg some (by kernel_rfl))⟩
  f16 := ⟨Tryz.f169.name, by decide, Tryz.func169.trans (congrArg some (by kernel_rfl))⟩
  f17 := ⟨Tryz.f170.name, by decide, Tryz.func170.trans (congrArg some (by kernel_rfl))⟩
  f18 := ⟨Tryz.f171.name, by decide, Tryz.func171.trans (congrArg some (by kernel_rfl))⟩
  f19 := Tryz.func172.trans (congrArg some (by kernel_rfl))
  f20 := Tryz.func173.trans (congrArg some (by kernel_rfl))
  f30 := ⟨Tryz.f190.name, by decide, Tryz.func190.trans (congrArg some (by kernel_rfl))⟩
  f31 := Tryz.func191.trans (congrArg some (by kernel_rfl))
  f32 := Tryz.func192.trans (congrArg some (by kernel_rfl))
  f33 := ⟨Tryz.f193.name, by decide, Tryz.func193.trans (congrArg some (by kernel_rfl))⟩
  f34 := ⟨Tryz.f194.name, by decide, Tryz.func194.trans (congrArg some (by kernel_rfl))⟩
  f35 := ⟨Tryz.f144.name, by decide, Tryz.func144.trans (congrArg some (by kernel_rfl))⟩
  f40 := ⟨Tryz.f208.name, by decide, Tryz.func208.trans (congrArg some (by kernel_rfl))⟩
  t0 := Tryz.underlying0
  a0 := Tryz.isAgg0
  z0 := Tryz.sizeOf0
  v0 := Tryz.zeroValue0
  t3 := Tryz.underlying3
  a3 := Tryz.isAgg3
  z3 := Tryz.sizeOf3
  v3 := Tryz.zeroValue3
  t4 := Tryz.underlying4
  a4 := Tryz.isAgg4
  z4 := Tryz.sizeOf4
  v4 := Tryz.zeroValue4
  t5 := Tryz.underlying5
  a5 := Tryz.isAgg5
  z5 := Tryz.sizeOf5
  v5 := Tryz.zeroValue5
  t9 := Tryz.underlying9
  a9 := Tryz.isAgg9
  z9 := Tryz.sizeOf9
  v9 := Tryz.zeroValue9
  t22 := Tryz.underlying64
  a22 := Tryz.isAgg64
  z22 := Tryz.sizeOf64
  v22 := Tryz.zeroValue64
  t23 := Tryz.underlying64
  a23 := Tryz.isAgg64
  z23 := Tryz.sizeOf64
  v23 := Tryz.zeroValue64
  t25 := Tryz.underlying3
  a25 := Tryz.isAgg3
  z25 := Tryz.sizeOf3
  v25 := Tryz.zeroValue3
  t32 := Tryz.underlying183
  a32 := Tryz.isAgg183
  z32 := Tryz.sizeOf183
  v32 := Tryz.zeroValue183
  t35 := Tryz.underlying203
  a35 := Tryz.isAgg203
  z35 := Tryz.sizeOf203
  v35 := Tryz.zeroValue203
  t36 := Tryz.underlying204
  a36 := Tryz.isAgg204
  z36 := Tryz.sizeOf204
  v36 := Tryz.zeroValue204
  t41 := Tryz.underlying209
  a41 := Tryz.isAgg209
  z41 := Tryz.sizeOf209
  v41 := Tryz.zeroValue209
  t44 := Tryz.underlying212
  a44 := Tryz.isAgg212
  z44 := Tryz.sizeOf212
  v44 := Tryz.zeroValue212
  t46 := Tryz.underlying214
  a46 := Tryz.isAgg214
  z46 := Tryz.sizeOf214
  v46 := Tryz.zeroValue214
  t53 := Tryz.underlying234
  a53 := Tryz.isAgg234
  z53 := Tryz.sizeOf234
  v53 := Tryz.zeroValue234
  t57 := Tryz.underlying238
  a57 := Tryz.isAgg238
  z57 := Tryz.sizeOf238
  v57 := Tryz.zeroValue238
  t63 := Tryz.underlying249
  a63 := Tryz.isAgg249
  z63 := Tryz.sizeOf249
  v63 := Tryz.zeroValue249
  t64 := Tryz.underlying250
  a64 := Tryz.isAgg250
  z64 := Tryz.sizeOf250
  v64 := Tryz.zeroValue250 }
end Go.Proofs

/-
  Lists in rows of the call's own; copies of lists.
-/
namespace Go.Proofs.YtkeppoiomjhkpaaGreatDoor
open Go.RowKit Lg Go.Sort Go.Shelf

theorem flat_get {α : Type} (enc : α → List Value) (k : Nat) (hk : ∀ x, (enc x).length = k) (xs : List α) (j : Nat) (u : Value) (h : (xs.flatMap enc)[j]? = some u) : ∃ i x r, xs[i]? = some x ∧ (enc x)[r]? = some u ∧ j = i * k + r := by
  induction xs generalizing j with
  | nil => simp at h
  | cons x xs ih =>
    rw [List.flatMap_cons, List.getElem?_append] at h
    split at h
    · exact ⟨0, x, j, rfl, h, by omega⟩
    · rename_i hj
      obtain ⟨i, y, r, h1, h2, h3⟩ := ih _ h
      rw [hk] at hj h3
      exact ⟨i + 1, y, r, by simpa using h1, h2, by rw [Nat.add_mul]; omega⟩

theorem flat_len {α : Type} (enc : α → List Value) (k : Nat) (hk : ∀ x, (enc x).length = k) (xs : List α) : (xs.flatMap enc).length = xs.length * k := by
  induction xs with
  | nil => simp
  | cons x xs ih => rw [List.flatMap_cons, List.length_append, ih, hk, List.length_cons, Nat.add_mul]; omega

theorem flat_put {α : Type} (enc : α → List Value) (k : Nat) (hk : ∀ x, (enc x).length = k) (xs : List α) (i r : Nat) (x : α) (u : Value) (h1 : xs[i]? = some x) (h2 : (enc x)[r]? = some u) : (xs.flatMap enc)[i * k + r]? = some u := by
  induction xs generalizing i with
  | nil => simp at h1
  | cons y ys ih =>
    rw [List.flatMap_cons]
    have hr : r < k := by rw [← hk x]; exact (List.getElem?_eq_some_iff.1 h2).1
    cases i with
    | zero =>
      simp at h1; subst h1
      rw [List.getElem?_append_left (by rw [hk]; omega), Nat.zero_mul, Nat.zero_add]; exact h2
    | succ i =>
      rw [List.getElem?_append_right (by rw [hk, Nat.add_mul]; omega), hk]
      have := ih i (by simpa using h1)
      rw [show (i + 1) * k + r - k = i * k + r by rw [Nat.add_mul]; omega]
      exact this

/-- What a list's cells are, as one run. -/
theorem Lst.cells {α : Type} {w : World} {k : Nat} {enc : α → List Value} {b off : Nat} {n cap : Nat} {xs : List α} (hk : ∀ x, (enc x).length = k) (h : Lst w k enc (some ⟨b, off, none⟩) n cap xs) (j : Nat) (u : Value) (hj : (xs.flatMap enc)[j]? = some u) : w.cell? ⟨b, off + j, none⟩ = some u := by
  obtain ⟨i, x, r, h1, h2, rfl⟩ := flat_get enc k hk xs j u hj
  obtain ⟨b', off', ha, _, hr⟩ := h.at_ i x h1
  cases ha
  rw [← Nat.add_assoc]
  exact hr r u h2

/-- A row of one's own is a list in memory. -/
theorem Lst.of_owns {α : Type} {w : World} {base : Nat} {e : TypeId} {k : Nat} {enc : α → List Value} {v : Value} {n : Nat} {xs : List α} (hk : ∀ x, (enc x).length = k) (_hk0 : 0 < k) (h : w.ownsRow base e k v n (xs.flatMap enc)) (hl : xs.length = n) :
    ∃ a cap, v = .slice a n cap ∧ (∀ ad, a = some ad → ∃ b, base ≤ b ∧ ad = ⟨b, 0, none⟩) ∧ Lst w k enc a n cap xs := by
  obtain ⟨h0, h1 | ⟨g, cap, cur, hv, hb, hg, hnc, hcm, hcur, htk⟩⟩ := h
  · obtain ⟨rfl, rfl⟩ := h1
    refine ⟨none, 0, rfl, fun _ h => (by cases h), ?_⟩
    have : xs = [] := List.eq_nil_of_length_eq_zero hl
    subst this
    exact Lst.nil w k enc
  · refine ⟨_, cap, hv, fun ad h => ⟨g, hb, by cases h; rfl⟩, hl, hnc, hcm, fun i x hx => ⟨g, 0, rfl, (Array.getElem?_eq_some_iff.1 hg).1, fun j u hu => ?_⟩⟩
    have hp := flat_put enc k hk xs i j x u hx hu
    rw [← htk] at hp
    have hj : i * k + j < n * k := by
      have := (List.getElem?_eq_some_iff.1 hp).1
      rw [List.length_take] at this; omega
    rw [List.getElem?_take_of_lt hj] at hp
    simp only [World.cell?, hg, Nat.zero_add]
    simpa using hp

theorem ownsRow_flat {α : Type} {w : World} {base : Nat} {e : TypeId} {k : Nat} {enc : α → List Value} {v : Value} {n : Nat} {xs : List α} (hk : ∀ x, (enc x).length = k) (hk0 : 0 < k) (h : w.ownsRow base e k v n (xs.flatMap enc)) : xs.length = n := by
  have := h.1; rw [flat_len enc k hk] at this; exact Nat.eq_of_mul_eq_mul_right hk0 this

theorem cR_one (x : Rate) : ∀ u ∈ cR x, u.oneCell' = true := by simp [cR, Value.oneCell']
theorem flat_one {α : Type} (enc : α → List Value) (h : ∀ x, ∀ u ∈ enc x, u.oneCell' = true) (xs : List α) : ∀ u ∈ xs.flatMap enc, u.oneCell' = true := fun u hu => by
  obtain ⟨x, _, hx⟩ := List.mem_flatMap.1 hu
  exact h x u hx

theorem infoR : (Tryz.prog.info? 43).map (fun i => (i.zero, i.size, i.bytes)) = some (some (aR zeroRate), 9, 80) := by kernel_rfl
theorem infoI : (Tryz.prog.info? 3).map (fun i => (i.zero, i.size, i.bytes)) = some (some (.int .i64 0), 1, 8) := by kernel_rfl
theorem infoSh : (Tryz.prog.info? 76).map (fun i => (i.zero, i.size, i.bytes)) = some (some (.agg #[.int .i64 0, .int .i64 0]), 2, 16) := by kernel_rfl
theorem infoF : (Tryz.prog.info? 41).map (fun i => (i.zero, i.size, i.bytes)) = some (some (.agg #[.int .i64 0, .int .i64 0]), 2, 16) := by kernel_rfl

/-- The address of a slice, if there is one, is the plain one. -/
def Plain (a : Option Addr) : Prop := ∀ ad, a = some ad → ∃ b off, ad = ⟨b, off, none⟩

theorem cloneR_any (a : Option Addr) (n cap : Nat) (xs : List Rate) (w : World) (hA : Plain a) (hn : n ≤ 1000) (hL : Lst w 9 cR a n cap xs) :
    Calls Tryz.prog 59 #[.slice a n cap] w fun e w' => ∃ v', e = .returned v' ∧ w'.ownsRow w.heap.size 43 9 v' n (xs.flatMap cR) ∧ RowKit.Below w.heap.size w w' := by
  obtain ⟨i0, hi, hz0, hz1, hz2⟩ := info_parts infoR
  cases a with
  | none =>
    have h0 : xs = [] := by
      cases xs with
      | nil => rfl
      | cons x xs => obtain ⟨b, off, ha, _⟩ := hL.at_ 0 x rfl; cases ha
    subst h0
    have hl := hL.len
    simp at hl; subst hl
    refine (AnyE.slices_Clone_nil Tryz.cloneRate 0 cap w).mono ?_
    rintro e w' ⟨rfl, rfl⟩
    exact ⟨_, rfl, ⟨rfl, .inl ⟨rfl, rfl⟩⟩, Below.refl _ _⟩
  | some ad =>
    obtain ⟨b, off, rfl⟩ := hA ad rfl
    refine (AnyE.slices_Clone Tryz.cloneRate i0 _ 9 80 hi hz0 hz1 hz2 rfl (by omega) Tryz.sizeOf43 b off n cap (xs.flatMap cR) w (by rw [flat_len cR 9 (fun _ => rfl), hL.len]) (by unfold maxLen; omega) (by omega) (hL.cells (fun _ => rfl)) (flat_one cR cR_one xs)).mono ?_
    rintro e w' ⟨v', rfl, h1, _, h2⟩
    exact ⟨v', rfl, h1, h2⟩

end Go.Proofs.YtkeppoiomjhkpaaGreatDoor

/-
  Walks: the closures of follows.
-/
namespace Go.Proofs.YtkeppoiomjhkpaaGreatDoor
open Go.RowKit Lg Go.Sort

set_option maxRecDepth 100000 in
set_option maxHeartbeats 400000 in
theorem folR1_any (x : Rate) (h : Head) (B1 : Nat) (w : World) (c1 : w.cell? ⟨B1, 0, none⟩ = some (.int .i64 h.id)) :
    Calls Tryz.prog 89 #[aR x, .pointer (some ⟨B1, 0, none⟩)] w (Gives w (.bool (decide (x.id = h.id)))) := by
  obtain ⟨W, hW⟩ : ∃ W, W = w.alloc (.cells #[.int .i64 x.id, .int .i64 x.known, .int .i64 x.from_, .string x.goods, .int .i64 x.finder.num, .int .i64 x.finder.den, .int .i64 x.cart, .int .i64 x.store, .int .i64 x.of_] 43) := ⟨_, rfl⟩
  have b1 : B1 < w.heap.size := block_lt_of_cell c1
  have hB : Below w.heap.size w W := hW ▸ (Below.refl _ w).alloc (Nat.le_refl _) _
  have k1 := cell_regrown ((hB.cell (p := ⟨B1, 0, none⟩) b1).trans c1)
  have k3 := box_regrown hW
  have fh := fieldH
  have cH := regrown_call (w := W) (v := .agg #[.int .i64 x.id, .int .i64 x.known, .int .i64 x.of_]) (fun W' _ => headR_any x W')
  go_enter Tryz.func89, Tryz.ntmps89
  go_wp2
  rw [← hW]; clear hW
  refine wp_region_quiet_below (by kernel_rfl) (by kernel_rfl) ?_
  repeat (go_big_quiet_step (exact cH _ _))
  refine wpQuiet_nil ?_
  intro _ hw'
  obtain ⟨⟨dq, osq⟩, hw''⟩ := hw'
  subst hw''
  go_wp2
  go_ret
  exact ⟨ret_bool rfl, hB.trans ((below_regrown W dq osq).mono hB.size)⟩

set_option maxRecDepth 100000 in
set_option maxHeartbeats 400000 in
theorem folR2_any (x : Rate) (h : Head) (B1 : Nat) (w : World) (c1 : w.cell? ⟨B1, 2, none⟩ = some (.int .i64 h.of_)) :
    Calls Tryz.prog 90 #[aR x, .pointer (some ⟨B1, 0, none⟩)] w (Gives w (.bool (decide (x.id = h.of_) && decide (x.of_ = 0)))) := by
  obtain ⟨W, hW⟩ : ∃ W, W = w.alloc (.cells #[.int .i64 x.id, .int .i64 x.known, .int .i64 x.from_, .string x.goods, .int .i64 x.finder.num, .int .i64 x.finder.den, .int .i64 x.cart, .int .i64 x.store, .int .i64 x.of_] 43) := ⟨_, rfl⟩
  have b1 : B1 < w.heap.size := block_lt_of_cell c1
  have hB : Below w.heap.size w W := hW ▸ (Below.refl _ w).alloc (Nat.le_refl _) _
  have k1 := cell_regrown ((hB.cell (p := ⟨B1, 2, none⟩) b1).trans c1)
  have k3 := box_regrown hW
  have fh := fieldH
  have cH := regrown_call (w := W) (v := .agg #[.int .i64 x.id, .int .i64 x.known, .int .i64 x.of_]) (fun W' _ => headR_any x W')
  go_enter Tryz.func90, Tryz.ntmps90
  go_wp2
  rw [← hW]; clear hW
  by_cases hid : x.id = h.of_
  · have g1 : (x.id == h.of_) = true := by simp [hid]
    have H := Lib.hid hid; clear hid
    refine wp_region_quiet_below (by kernel_rfl) (by kernel_rfl) ?_
    repeat (go_big_quiet_step (exact cH _ _))
    refine wpQuiet_nil ?_
    intro _ hw'
    obtain ⟨⟨dq, osq⟩, hw''⟩ := hw'
    subst hw''
    go_wp2
    go_ret
    exact ⟨ret_bool (by simp [H.out]; rfl), hB.trans ((below_regrown W dq osq).mono hB.size)⟩
  · have g1 : (x.id == h.of_) = false := by simp [hid]
    have H := Lib.hid hid; clear hid
    refine wp_region_quiet_below (by kernel_rfl) (by kernel_rfl) ?_
    repeat (go_big_quiet_step (exact cH _ _))
    refine wpQuiet_nil ?_
    intro _ hw'
    obtain ⟨⟨dq, osq⟩, hw''⟩ := hw'
    subst hw''
    go_wp2
    go_ret
    exact ⟨ret_bool (by simp [H.out]), hB.trans ((below_regrown W dq osq).mono hB.size)⟩

set_option maxRecDepth 100000 in
set_option maxHeartbeats 400000 in
theorem folR3_any (x : Rate) (h : Head) (B1 : Nat) (w : World) (c1 : w.cell? ⟨B1, 2, none⟩ = some (.int .i64 h.of_)) :
    Calls Tryz.prog 91 #[aR x, .pointer (some ⟨B1, 0, none⟩)] w (Gives w (.bool (decide (x.of_ = h.of_)))) := by
  obtain ⟨W, hW⟩ : ∃ W, W = w.alloc (.cells #[.int .i64 x.id, .int .i64 x.known, .int .i64 x.from_, .string x.goods, .int .i64 x.finder.num, .int .i64 x.finder.den, .int .i64 x.cart, .int .i64 x.store, .int .i64 x.of_] 43) := ⟨_, rfl⟩
  have b1 : B1 < w.heap.size := block_lt_of_cell c1
  have hB : Below w.heap.size w W := hW ▸ (Below.refl _ w).alloc (Nat.le_refl _) _
  have k1 := cell_regrown ((hB.cell (p := ⟨B1, 2, none⟩) b1).trans c1)
  have k3 := box_regrown hW
  have fh := fieldH
  have cH := regrown_call (w := W) (v := .agg #[.int .i64 x.id, .int .i64 x.known, .int .i64 x.of_]) (fun W' _ => headR_any x W')
  go_enter Tryz.func91, Tryz.ntmps91
  go_wp2
  rw [← hW]; clear hW
  refine wp_region_quiet_below (by kernel_rfl) (by kernel_rfl) ?_
  repeat (go_big_quiet_step (exact cH _ _))
  refine wpQuiet_nil ?_
  intro _ hw'
  obtain ⟨⟨dq, osq⟩, hw''⟩ := hw'
  subst hw''
  go_wp2
  go_ret
  exact ⟨ret_bool rfl, hB.trans ((below_regrown W dq osq).mono hB.size)⟩

set_option maxRecDepth 100000 in
set_option maxHeartbeats 400000 in
theorem folS1_any (x : Sale) (h : Head) (B1 : Nat) (w : World) (c1 : w.cell? ⟨B1, 0, none⟩ = some (.int .i64 h.id)) :
    Calls Tryz.prog 116 #[aS x, .pointer (some ⟨B1, 0, none⟩)] w (Gives w (.bool (decide (x.id = h.id)))) := by
  obtain ⟨W, hW⟩ : ∃ W, W = w.alloc (.cells #[.int .i64 x.id, .int .i64 x.known, .int .i64 x.hour, .int .i64 x.parcel, .int .i64 x.price, .int .i64 x.carter, .int .i64 x.keeper, .int .i64 x.since, .int .i64 x.of_] 24) := ⟨_, rfl⟩
  have b1 : B1 < w.heap.size := block_lt_of_cell c1
  have hB : Below w.heap.size w W := hW ▸ (Below.refl _ w).alloc (Nat.le_refl _) _
  have k1 := cell_regrown ((hB.cell (p := ⟨B1, 0, none⟩) b1).trans c1)
  have k3 := box_regrown hW
  have fh := fieldH
  have cH := regrown_call (w := W) (v := .agg #[.int .i64 x.id, .int .i64 x.known, .int .i64 x.of_]) (fun W' _ => headS_any x W')
  go_enter Tryz.func116, Tryz.ntmps116
  go_wp2
  rw [← hW]; clear hW
  refine wp_region_quiet_below (by kernel_rfl) (by kernel_rfl) ?_
  repeat (go_big_quiet_step (exact cH _ _))
  refine wpQuiet_nil ?_
  intro _ hw'
  obtain ⟨⟨dq, osq⟩, hw''⟩ := hw'
  subst hw''
  go_wp2
  go_ret
  exact ⟨ret_bool rfl, hB.trans ((below_regrown W dq osq).mono hB.size)⟩

set_option maxRecDepth 100000 in
set_option maxHeartbeats 400000 in
theorem folS2_any (x : Sale) (h : Head) (B1 : Nat) (w : World) (c1 : w.cell? ⟨B1, 2, none⟩ = some (.int .i64 h.of_)) :
    Calls Tryz.prog 117 #[aS x, .pointer (some ⟨B1, 0, none⟩)] w (Gives w (.bool (decide (x.id = h.of_) && decide (x.of_ = 0)))) := by
  obtain ⟨W, hW⟩ : ∃ W, W = w.alloc (.cells #[.int .i64 x.id, .int .i64 x.known, .int .i64 x.hour, .int .i64 x.parcel, .int .i64 x.price, .int .i64 x.carter, .int .i64 x.keeper, .int .i64 x.since, .int .i64 x.of_] 24) := ⟨_, rfl⟩
  have b1 : B1 < w.heap.size := block_lt_of_cell c1
  have hB : Below w.heap.size w W := hW ▸ (Below.refl _ w).alloc (Nat.le_refl _) _
  have k1 := cell_regrown ((hB.cell (p := ⟨B1, 2, none⟩) b1).trans c1)
  have k3 := box_regrown hW
  have fh := fieldH
  have cH := regrown_call (w := W) (v := .agg #[.int .i64 x.id, .int .i64 x.known, .int .i64 x.of_]) (fun W' _ => headS_any x W')
  go_enter Tryz.func117, Tryz.ntmps117
  go_wp2
  rw [← hW]; clear hW
  by_cases hid : x.id = h.of_
  · have g1 : (x.id == h.of_) = true := by simp [hid]
    have H := Lib.hid hid; clear hid
    refine wp_region_quiet_below (by kernel_rfl) (by kernel_rfl) ?_
    repeat (go_big_quiet_step (exact cH _ _))
    refine wpQuiet_nil ?_
    intro _ hw'
    obtain ⟨⟨dq, osq⟩, hw''⟩ := hw'
    subst hw''
    go_wp2
    go_ret
    exact ⟨ret_bool (by simp [H.out]; rfl), hB.trans ((below_regrown W dq osq).mono hB.size)⟩
  · have g1 : (x.id == h.of_) = false := by simp [hid]
    have H := Lib.hid hid; clear hid
    refine wp_region_quiet_below (by kernel_rfl) (by kernel_rfl) ?_
    repeat (go_big_quiet_step (exact cH _ _))
    refine wpQuiet_nil ?_
    intro _ hw'
    obtain ⟨⟨dq, osq⟩, hw''⟩ := hw'
    subst hw''
    go_wp2
    go_ret
    exact ⟨ret_bool (by simp [H.out]), hB.trans ((below_regrown W dq osq).mono hB.size)⟩

set_option maxRecDepth 100000 in
set_option maxHeartbeats 400000 in
theorem folS3_any (x : Sale) (h : Head) (B1 : Nat) (w : World) (c1 : w.cell? ⟨B1, 2, none⟩ = some (.int .i64 h.of_)) :
    Calls Tryz.prog 118 #[aS x, .pointer (some ⟨B1, 0, none⟩)] w (Gives w (.bool (decide (x.of_ = h.of_)))) := by
  obtain ⟨W, hW⟩ : ∃ W, W = w.alloc (.cells #[.int .i64 x.id, .int .i64 x.known, .int .i64 x.hour, .int .i64 x.parcel, .int .i64 x.price, .int .i64 x.carter, .int .i64 x.keeper, .int .i64 x.since, .int .i64 x.of_] 24) := ⟨_, rfl⟩
  have b1 : B1 < w.heap.size := block_lt_of_cell c1
  have hB : Below w.heap.size w W := hW ▸ (Below.refl _ w).alloc (Nat.le_refl _) _
  have k1 := cell_regrown ((hB.cell (p := ⟨B1, 2, none⟩) b1).trans c1)
  have k3 := box_regrown hW
  have fh := fieldH
  have cH := regrown_call (w := W) (v := .agg #[.int .i64 x.id, .int .i64 x.known, .int .i64 x.of_]) (fun W' _ => headS_any x W')
  go_enter Tryz.func118, Tryz.ntmps118
  go_wp2
  rw [← hW]; clear hW
  refine wp_region_quiet_below (by kernel_rfl) (by kernel_rfl) ?_
  repeat (go_big_quiet_step (exact cH _ _))
  refine wpQuiet_nil ?_
  intro _ hw'
  obtain ⟨⟨dq, osq⟩, hw''⟩ := hw'
  subst hw''
  go_wp2
  go_ret
  exact ⟨ret_bool rfl, hB.trans ((below_regrown W dq osq).mono hB.size)⟩

end Go.Proofs.YtkeppoiomjhkpaaGreatDoor
