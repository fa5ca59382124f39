import Derived.Shelf.SlGeneric
import Derived.Shelf.Small.Wraps
import Derived.Shelf.Sort.Plain
import Derived.Ground.Names2Prog
import Derived.Shelf.Slices.Clone
import Derived.Shelf.Slices.CompactI
import Derived.Shelf.Slices.In.SortNone
import Derived.Ground.SlgnProg
import Derived.Shelf.SlicesE.Clone
import Derived.Ground.SlsfProg
import Derived.Shelf.SlSortCmp.Insertion1
import Derived.Shelf.SlIterI.Nil
import Derived.Shelf.SortM.Plain
import Derived.Shelf.SortM.SortNone
import Derived.Ground.GgzProg
import Derived.Ground.SlgmProg
import Derived.Test.YtollegoajlfdiaaGreatProg
import Derived.Test.YtollegoajlfdiaaGreatPart01
import Derived.Deep.Quiet
import Derived.Laws.AppendOwn
import Derived.Sort.OwnSortedInts
import Derived.Lib.OwnBridge
/-
  DERIVED: THE SHELF's CONTRACTS AT THIS DUMP, IN PLAIN WORDS (tools/lay-plain.mjs out of 'YtollegoajlfdiaaGreatShf.lean', which tools/lay-shelf.mjs wrote): THE SAME DECLARATIONS UNDER THE SAME NAMES: 'import', 'namespace', 'open', 'def', 'theorem' AND NOTHING ELSE: no command of the shelf's: FOR A HAND-IN. Each laying: the table of numbers ('.._ren') and one theorem, a field a fact of the dump's own or the kernel's comparison; each contract: ONE APPLICATION.
-/
namespace Go.Proofs
open Go.Shelf
def Tryz.lays122_ren : Go.Shelf.Ren := ⟨fun | 122 => 108 | 215 => 148 | n => n, fun | 3 => 3 | 4 => 4 | n => n, fun | n => n⟩
theorem Tryz.lays122 : Go.Proofs.Lays.n122 Tryz.prog Tryz.lays122_ren := {
  mixed := by kernel_rfl
  f122 := Tryz.func108.trans (congrArg some (by kernel_rfl))
  f215 := Tryz.func148.trans (congrArg some (by kernel_rfl))
  t3 := Tryz.underlying3
  a3 := Tryz.isAgg3
  z3 := Tryz.sizeOf3
  v3 := Tryz.zeroValue3
  t4 := Tryz.underlying4
  a4 := Tryz.isAgg4
  z4 := Tryz.sizeOf4
  v4 := Tryz.zeroValue4 }
open Go.RowKit in
/-- cmp.Compare at int: "Compare returns -1 if x is less than y, 0 if x equals y, +1 if x is greater than y.": IT RETURNS 'Lib.compareInt x y'; the world is as it was. (LAID: no walk: one application.) -/
theorem Tryz.cmp_Compare_int (x y : Int) (w : World) :
    Calls Tryz.prog 108 #[.int .i64 x, .int .i64 y] w fun e w' => e = .returned (.int .i64 (Lib.compareInt x y)) ∧ w' = w := Any.cmp_Compare_int Tryz.lays122 x y w
def Tryz.lays189_ren : Go.Shelf.Ren := ⟨fun | 189 => 90 | 125 => 132 | 257 => 131 | 128 => 169 | 129 => 170 | 294 => 160 | 295 => 161 | 296 => 162 | 297 => 163 | 298 => 164 | 299 => 165 | 216 => 166 | 300 => 167 | 301 => 168 | 328 => 178 | 329 => 179 | 330 => 180 | 331 => 181 | 332 => 182 | 215 => 148 | 343 => 185 | n => n, fun | 28 => 35 | 3 => 3 | 46 => 84 | 0 => 0 | 51 => 185 | 53 => 187 | 4 => 4 | 183 => 177 | 182 => 176 | 131 => 182 | 5 => 5 | 9 => 9 | 218 => 196 | 222 => 200 | 228 => 204 | 229 => 205 | n => n, fun | n => n⟩
theorem Tryz.lays189 : Go.Proofs.Lays.n189 Tryz.prog Tryz.lays189_ren := {
  mixed := by kernel_rfl
  f125 := Tryz.func132.trans (congrArg some (by kernel_rfl))
  f128 := Tryz.func169.trans (congrArg some (by kernel_rfl))
  f129 := Tryz.func170.trans (congrArg some (by kernel_rfl))
  f189 := Tryz.func90.trans (congrArg some (by kernel_rfl))
  f215 := Tryz.func148.trans (congrArg some (by kernel_rfl))
  f216 := Tryz.func166.trans (congrArg some (by kernel_rfl))
  f257 := Tryz.func131.trans (congrArg some (by kernel_rfl))
  f294 := Tryz.func160.trans (congrArg some (by kernel_rfl))
  f295 := Tryz.func161.trans (congrArg some (by kernel_rfl))
  f296 := Tryz.func162.trans (congrArg some (by kernel_rfl))
  f297 := Tryz.func163.trans (congrArg some (by kernel_rfl))
  f298 := Tryz.func164.trans (congrArg some (by kernel_rfl))
  f299 := Tryz.func165.trans (congrArg some (by kernel_rfl))
  f300 := Tryz.func167.trans (congrArg some (by kernel_rfl))
  f301 := Tryz.func168.trans (congrArg some (by kernel_rfl))
  f328 := Tryz.func178.trans (congrArg some (by kernel_rfl))
  f329 := Tryz.func179.trans (congrArg some (by kernel_rfl))
  f330 := Tryz.func180.trans (congrArg some (by kernel_rfl))
  f331 := Tryz.func181.trans (congrArg some (by kernel_rfl))
  f332 := Tryz.func182.trans (congrArg some (by kernel_rfl))
  f343 := Tryz.func185.trans (congrArg some (by kernel_rfl))
  t0 := Tryz.underlying0
  a0 := Tryz.isAgg0
  z0 := Tryz.sizeOf0
  v0 := Tryz.zeroValue0
  t3 := Tryz.underlying3
  a3 := Tryz.isAgg3
  z3 := Tryz.sizeOf3
  v3 := Tryz.zeroValue3
  t4 := Tryz.underlying4
  a4 := Tryz.isAgg4
  z4 := Tryz.sizeOf4
  v4 := Tryz.zeroValue4
  t5 := Tryz.underlying5
  a5 := Tryz.isAgg5
  z5 := Tryz.sizeOf5
  v5 := Tryz.zeroValue5
  t9 := Tryz.underlying9
  a9 := Tryz.isAgg9
  z9 := Tryz.sizeOf9
  v9 := Tryz.zeroValue9
  t28 := Tryz.underlying35
  a28 := Tryz.isAgg35
  z28 := Tryz.sizeOf35
  v28 := Tryz.zeroValue35
  t46 := Tryz.underlying84
  a46 := Tryz.isAgg84
  z46 := Tryz.sizeOf84
  v46 := Tryz.zeroValue84
  t51 := Tryz.underlying185
  a51 := Tryz.isAgg185
  z51 := Tryz.sizeOf185
  v51 := Tryz.zeroValue185
  t53 := Tryz.underlying187
  a53 := Tryz.isAgg187
  z53 := Tryz.sizeOf187
  v53 := Tryz.zeroValue187
  t131 := Tryz.underlying182
  a131 := Tryz.isAgg182
  z131 := Tryz.sizeOf182
  v131 := Tryz.zeroValue182
  t182 := Tryz.underlying176
  a182 := Tryz.isAgg176
  z182 := Tryz.sizeOf176
  v182 := Tryz.zeroValue176
  t183 := Tryz.underlying177
  a183 := Tryz.isAgg177
  z183 := Tryz.sizeOf177
  v183 := Tryz.zeroValue177
  t218 := Tryz.underlying196
  a218 := Tryz.isAgg196
  z218 := Tryz.sizeOf196
  v218 := Tryz.zeroValue196
  t222 := Tryz.underlying200
  a222 := Tryz.isAgg200
  z222 := Tryz.sizeOf200
  v222 := Tryz.zeroValue200
  t228 := Tryz.underlying204
  a228 := Tryz.isAgg204
  z228 := Tryz.sizeOf204
  v228 := Tryz.zeroValue204
  t229 := Tryz.underlying205
  a229 := Tryz.isAgg205
  z229 := Tryz.sizeOf205
  v229 := Tryz.zeroValue205 }
open Go.Sort Go.RowKit in
theorem Tryz.slices_Sort_int (blk off cap : Nat) (zs : List Int) (w : World) (hH : Holds (Value.int .i64) w blk off zs.toArray) (hblk : blk < w.heap.size) (hsz : zs.length < 4611686018427387904) :
    Calls Tryz.prog 90 #[.slice (some ⟨blk, off, none⟩) zs.length cap] w fun e w' =>
      e = .returned (.tuple #[]) ∧ ∃ n os, w' = grow (putRow (Value.int .i64) (Sort.ahead w n) blk off (zs.mergeSort fun x y => decide (x ≤ y)).toArray) os := Any.slices_Sort_int Tryz.lays189 blk off cap zs w hH hblk hsz
def Tryz.laysNm215_ren : Go.Shelf.Ren := ⟨fun | 15 => 146 | n => n, fun | 22 => 35 | 3 => 3 | 4 => 4 | n => n, fun | n => n⟩
theorem Tryz.laysNm215 : Go.Proofs.Lays2.n15 Tryz.prog Tryz.laysNm215_ren := {
  mixed := by kernel_rfl
  f15 := Tryz.func146.trans (congrArg some (by kernel_rfl))
  t3 := Tryz.underlying3
  a3 := Tryz.isAgg3
  z3 := Tryz.sizeOf3
  v3 := Tryz.zeroValue3
  t4 := Tryz.underlying4
  a4 := Tryz.isAgg4
  z4 := Tryz.sizeOf4
  v4 := Tryz.zeroValue4
  t22 := Tryz.underlying35
  a22 := Tryz.isAgg35
  z22 := Tryz.sizeOf35
  v22 := Tryz.zeroValue35
  i3 := by kernel_rfl }
open Go.RowKit Go.Lib in
/-- slices.Clone at []int: "Clone returns a copy of the slice. The elements are copied using assignment, so this is a shallow clone. The result may have additional unused capacity. The result preserves the nilness of s.": OF A SLICE THAT IS NOT nil IT RETURNS A SLICE THAT IS NOT nil, OF THE SAME ELEMENTS, IN MEMORY OF THE CALL's OWN: in the how-to's words (6f): 'w'.ownsRow B e 1 v' n cells': v' begins at the head of a row among the blocks from B on (B: the heap's size at the call), not frozen, whose first cells are the elements · 'Below B w w'': below B all is as it was. The capacity is whatever the run-time gives. 'zs': what the cells behind the slice's address hold; 'zs.take n': its elements. (LAID: no walk: one application.) -/
theorem Tryz.slices_Clone_int (b off n c : Nat) (zs : List Int) (w : World) (hz : n ≤ zs.length) (hbig : n * 8 ≤ 140737488355328) (hc : ∀ j, j < zs.length → w.cell? ⟨b, off + j, none⟩ = some (.int .i64 (zs.getD j 0))) :
    Calls Tryz.prog 146 #[.slice (some ⟨b, off, none⟩) n c] w fun e w' => ∃ v', e = .returned v' ∧ w'.ownsRow w.heap.size 3 1 v' n ((zs.take n).map (Value.int .i64)) ∧ v' ≠ .slice none 0 0 ∧ Below w.heap.size w w' := Any.slices_Clone_int Tryz.laysNm215 b off n c zs w hz hbig hc
open Go.RowKit Go.Lib in
/-- The same at nil: nil comes back; the world is as it was. (LAID: no walk: one application.) -/
theorem Tryz.slices_Clone_int_nil (n c : Nat) (w : World) :
    Calls Tryz.prog 146 #[.slice none n c] w fun e w' => e = .returned (.slice none 0 0) ∧ w' = w := Any.slices_Clone_int_nil Tryz.laysNm215 n c w
open Go.RowKit Go.Lib in
/-- The same at a slice of length 0 that is not nil, WHATEVER ITS ADDRESS (no cell is asked for): a slice that is not nil and owns nothing comes back. (LAID: no walk: one application.) -/
theorem Tryz.slices_Clone_int_zero (a : Addr) (c : Nat) (w : World) :
    Calls Tryz.prog 146 #[.slice (some a) 0 c] w fun e w' => ∃ v', e = .returned v' ∧ w'.ownsRow w.heap.size 3 1 v' 0 [] ∧ v' ≠ .slice none 0 0 ∧ Below w.heap.size w w' := Any.slices_Clone_int_zero Tryz.laysNm215 a c w
def Tryz.laysNm220_ren : Go.Shelf.Ren := ⟨fun | 20 => 95 | n => n, fun | 22 => 35 | 3 => 3 | 4 => 4 | 0 => 0 | n => n, fun | n => n⟩
theorem Tryz.laysNm220 : Go.Proofs.Lays2.n20 Tryz.prog Tryz.laysNm220_ren := {
  mixed := by kernel_rfl
  f20 := Tryz.func95.trans (congrArg some (by kernel_rfl))
  t0 := Tryz.underlying0
  a0 := Tryz.isAgg0
  z0 := Tryz.sizeOf0
  v0 := Tryz.zeroValue0
  t3 := Tryz.underlying3
  a3 := Tryz.isAgg3
  z3 := Tryz.sizeOf3
  v3 := Tryz.zeroValue3
  t4 := Tryz.underlying4
  a4 := Tryz.isAgg4
  z4 := Tryz.sizeOf4
  v4 := Tryz.zeroValue4
  t22 := Tryz.underlying35
  a22 := Tryz.isAgg35
  z22 := Tryz.sizeOf35
  v22 := Tryz.zeroValue35
  i3 := by kernel_rfl }
open Go.RowKit Go.Lib Go.Sort in
/-- slices.Compact at []int: "Compact replaces consecutive runs of equal elements with a single copy. This is like the uniq command found on Unix. Compact modifies the contents of the slice s and returns the modified slice, which may have a smaller length. Compact zeroes the elements between the new length and the original length. The result preserves the nilness of s.": IT RETURNS THE SLICE CUT TO 'Lib.compact zs'; ITS CELLS HOLD 'Lib.compact zs', THEN ZERO VALUES up to the old length; all else is as it was, but for the count of draws. IN THE WORDS OF slices.Sort's CONTRACT ('Holds', 'putRow'): so the everyday 'slices.Sort(xs); xs = slices.Compact(xs)' goes from the one contract to the other. It asks 'zs.length ≤ cap' (every slice's: the reslicing 's[:k]' looks at it). Length 0, nil: '.._empty'. (LAID: no walk: one application.) -/
theorem Tryz.slices_Compact_int (blk off cap : Nat) (zs : List Int) (w : World) (hH : Holds (Value.int .i64) w blk off zs.toArray) (hsz : zs.length ≤ 9223372036854775807) (hcap : zs.length ≤ cap) :
    Calls Tryz.prog 95 #[.slice (some ⟨blk, off, none⟩) zs.length cap] w fun e w' => e = .returned (.slice (some ⟨blk, off, none⟩) (Lib.compact zs).length cap) ∧ ∃ q, w' = putRow (Value.int .i64) (Sort.ahead w q) blk off (Lib.compact zs ++ List.replicate (zs.length - (Lib.compact zs).length) 0).toArray := Any.slices_Compact_int Tryz.laysNm220 blk off cap zs w hH hsz hcap
open Go.RowKit Go.Lib Go.Sort in
/-- The same at a slice of length 0, a nil one too: it comes back as it is. (LAID: no walk: one application.) -/
theorem Tryz.slices_Compact_int_empty (a : Option Addr) (cap : Nat) (w : World) :
    Calls Tryz.prog 95 #[.slice a 0 cap] w fun e w' => e = .returned (.slice a 0 cap) ∧ w' = w := Any.slices_Compact_int_empty Tryz.laysNm220 a cap w
open Go.RowKit Go.Sort in
/-- .. and plain. (LAID: no walk: one application.) -/
theorem Tryz.slices_Sort_int_none (p : Option Addr) (cap : Nat) (w : World) :
    Calls Tryz.prog 90 #[.slice p 0 cap] w fun e w' => e = .returned (.tuple #[]) ∧ w' = w := Any.slices_Sort_int_none Tryz.lays189 p cap w
def Tryz.laysSlF20_f_ren : Go.Shelf.Ren := ⟨fun | 20 => 183 | n => n, fun | 24 => 3 | 22 => 35 | 3 => 3 | 25 => 138 | 4 => 4 | 0 => 0 | n => n, fun | n => n⟩
theorem Tryz.laysSlF20_f : Go.Proofs.SlLaysF.n20 Tryz.prog Tryz.laysSlF20_f_ren := {
  mixed := by kernel_rfl
  f20 := ⟨Tryz.f183.name, by decide, Tryz.func183.trans (congrArg some (by kernel_rfl))⟩
  t0 := Tryz.underlying0
  a0 := Tryz.isAgg0
  z0 := Tryz.sizeOf0
  v0 := Tryz.zeroValue0
  t3 := Tryz.underlying3
  a3 := Tryz.isAgg3
  z3 := Tryz.sizeOf3
  v3 := Tryz.zeroValue3
  t4 := Tryz.underlying4
  a4 := Tryz.isAgg4
  z4 := Tryz.sizeOf4
  v4 := Tryz.zeroValue4
  t22 := Tryz.underlying35
  a22 := Tryz.isAgg35
  z22 := Tryz.sizeOf35
  v22 := Tryz.zeroValue35
  a24 := Tryz.isAgg3
  z24 := Tryz.sizeOf3
  t25 := Tryz.underlying138
  a25 := Tryz.isAgg138
  z25 := Tryz.sizeOf138
  v25 := Tryz.zeroValue138 }
open Go.RowKit Go.Lib Go.Sort in
theorem Tryz.insertionSortCmpFunc_one {α : Type} [Inhabited α] (enc : α → Value) (hO : OneCell enc) (cf : α → α → Int) (g : Nat) (cb : Array Value) (blk off cap a b : Nat) (d : Array α) (w : World) (eg : ∀ args w, (callFunc g args).run Tryz.prog w = .ok (.enter g args) w) (hcmp : CmpReads Tryz.prog g cb enc cf blk off d.size w) (hH : Holds enc w blk off d) (hab : a ≤ b) (hb : b ≤ d.size) (hsz : d.size < 4611686018427387904) :
    Calls Tryz.prog 183 #[.slice (some ⟨blk, off, none⟩) d.size cap, .int .i64 a, .int .i64 b, .func (.func g) #[] cb] w fun e w' =>
      e = .returned (.tuple #[]) ∧ ∃ n, w' = (putRow enc w blk off (Sort.insertionSort (ltOf cf) d a b)).drewN n := Any.insertionSortCmpFunc_one Tryz.laysSlF20_f enc hO cf g cb blk off cap a b d w eg hcmp hH hab hb hsz
def Tryz.cloneRate_ren : Go.Shelf.Ren := ⟨fun | 41 => 73 | n => n, fun | 22 => 22 | 23 => 26 | 4 => 4 | n => n, fun | n => n⟩
theorem Tryz.cloneRate : Go.Proofs.SlLaysE0.n41 Tryz.prog Tryz.cloneRate_ren := {
  mixed := by kernel_rfl
  f41 := ⟨Tryz.f73.name, by decide, Tryz.func73.trans (congrArg some (by kernel_rfl))⟩
  t4 := Tryz.underlying4
  a4 := Tryz.isAgg4
  z4 := Tryz.sizeOf4
  v4 := Tryz.zeroValue4
  t22 := Tryz.underlying22
  a22 := Tryz.isAgg22
  z22 := Tryz.sizeOf22
  v22 := Tryz.zeroValue22 }
def Tryz.keysA_ren : Go.Shelf.Ren := ⟨fun | 7 => 126 | 10 => 158 | n => n, fun | 23 => 111 | 26 => 3 | 3 => 3 | 28 => 154 | 0 => 0 | 27 => 153 | 33 => 132 | 4 => 4 | n => n, fun | n => n⟩
theorem Tryz.keysA : Go.Proofs.SlLaysZI.n7 Tryz.prog Tryz.keysA_ren := {
  mixed := by kernel_rfl
  f7 := ⟨Tryz.f126.name, by decide, Tryz.func126.trans (congrArg some (by kernel_rfl))⟩
  f10 := ⟨Tryz.f158.name, by decide, Tryz.func158.trans (congrArg some (by kernel_rfl))⟩
  t0 := Tryz.underlying0
  a0 := Tryz.isAgg0
  z0 := Tryz.sizeOf0
  v0 := Tryz.zeroValue0
  t4 := Tryz.underlying4
  a4 := Tryz.isAgg4
  z4 := Tryz.sizeOf4
  v4 := Tryz.zeroValue4
  t23 := Tryz.underlying111
  a23 := Tryz.isAgg111
  z23 := Tryz.sizeOf111
  v23 := Tryz.zeroValue111
  t26 := Tryz.underlying3
  a26 := Tryz.isAgg3
  z26 := Tryz.sizeOf3
  v26 := Tryz.zeroValue3
  t27 := Tryz.underlying153
  a27 := Tryz.isAgg153
  z27 := Tryz.sizeOf153
  v27 := Tryz.zeroValue153
  t28 := Tryz.underlying154
  a28 := Tryz.isAgg154
  z28 := Tryz.sizeOf154
  v28 := Tryz.zeroValue154
  t33 := Tryz.underlying132
  a33 := Tryz.isAgg132
  z33 := Tryz.sizeOf132
  v33 := Tryz.zeroValue132 }
def Tryz.sortedA_ren : Go.Shelf.Ren := ⟨fun | 6 => 125 | 8 => 157 | 9 => 90 | 11 => 177 | 13 => 132 | 12 => 131 | 23 => 169 | 24 => 170 | 14 => 160 | 15 => 161 | 16 => 162 | 17 => 163 | 18 => 164 | 19 => 165 | 20 => 166 | 21 => 167 | 22 => 168 | 25 => 178 | 26 => 179 | 27 => 180 | 28 => 181 | 29 => 182 | 30 => 148 | 31 => 185 | n => n, fun | 26 => 3 | 28 => 154 | 24 => 35 | 0 => 0 | 3 => 3 | 37 => 84 | 48 => 185 | 50 => 187 | 4 => 4 | 40 => 177 | 39 => 176 | 45 => 182 | 5 => 5 | 9 => 9 | 51 => 196 | 55 => 200 | 57 => 204 | 58 => 205 | 33 => 132 | n => n, fun | n => n⟩
theorem Tryz.sortedA : Go.Proofs.SlLaysZI.n6 Tryz.prog Tryz.sortedA_ren := {
  mixed := by kernel_rfl
  f6 := ⟨Tryz.f125.name, by decide, Tryz.func125.trans (congrArg some (by kernel_rfl))⟩
  f8 := ⟨Tryz.f157.name, by decide, Tryz.func157.trans (congrArg some (by kernel_rfl))⟩
  f11 := ⟨Tryz.f177.name, by decide, Tryz.func177.trans (congrArg some (by kernel_rfl))⟩
  t0 := Tryz.underlying0
  a0 := Tryz.isAgg0
  z0 := Tryz.sizeOf0
  v0 := Tryz.zeroValue0
  t24 := Tryz.underlying35
  a24 := Tryz.isAgg35
  z24 := Tryz.sizeOf35
  v24 := Tryz.zeroValue35
  t26 := Tryz.underlying3
  a26 := Tryz.isAgg3
  z26 := Tryz.sizeOf3
  v26 := Tryz.zeroValue3
  t28 := Tryz.underlying154
  a28 := Tryz.isAgg154
  z28 := Tryz.sizeOf154
  v28 := Tryz.zeroValue154
  i26 := by kernel_rfl }
def Tryz.sortA_ren : Go.Shelf.Ren := ⟨fun | 5 => 90 | 8 => 132 | 7 => 131 | 19 => 169 | 20 => 170 | 10 => 160 | 11 => 161 | 12 => 162 | 13 => 163 | 14 => 164 | 15 => 165 | 16 => 166 | 17 => 167 | 18 => 168 | 30 => 178 | 31 => 179 | 32 => 180 | 33 => 181 | 34 => 182 | 35 => 148 | 40 => 185 | n => n, fun | 23 => 35 | 25 => 3 | 3 => 3 | 32 => 84 | 22 => 35 | 0 => 0 | 44 => 185 | 46 => 187 | 4 => 4 | 36 => 177 | 35 => 176 | 41 => 182 | 5 => 5 | 9 => 9 | 53 => 196 | 57 => 200 | 63 => 204 | 64 => 205 | n => n, fun | n => n⟩
theorem Tryz.sortA : Go.Proofs.SlLaysM.n5 Tryz.prog Tryz.sortA_ren := {
  mixed := by kernel_rfl
  f5 := ⟨Tryz.f90.name, by decide, Tryz.func90.trans (congrArg some (by kernel_rfl))⟩
  f7 := ⟨Tryz.f131.name, by decide, Tryz.func131.trans (congrArg some (by kernel_rfl))⟩
  f8 := Tryz.func132.trans (congrArg some (by kernel_rfl))
  f10 := ⟨Tryz.f160.name, by decide, Tryz.func160.trans (congrArg some (by kernel_rfl))⟩
  f11 := ⟨Tryz.f161.name, by decide, Tryz.func161.trans (congrArg some (by kernel_rfl))⟩
  f12 := ⟨Tryz.f162.name, by decide, Tryz.func162.trans (congrArg some (by kernel_rfl))⟩
  f13 := ⟨Tryz.f163.name, by decide, Tryz.func163.trans (congrArg some (by kernel_rfl))⟩
  f14 := ⟨Tryz.f164.name, by decide, Tryz.func164.trans (congrArg some (by kernel_rfl))⟩
  f15 := ⟨Tryz.f165.name, by decide, Tryz.func165.trans (congrArg some (by kernel_rfl))⟩
  f16 := ⟨Tryz.f166.name, by decide, Tryz.func166.trans (congrArg some (by kernel_rfl))⟩
  f17 := ⟨Tryz.f167.name, by decide, Tryz.func167.trans (congrArg some (by kernel_rfl))⟩
  f18 := ⟨Tryz.f168.name, by decide, Tryz.func168.trans (congrArg some (by kernel_rfl))⟩
  f19 := Tryz.func169.trans (congrArg some (by kernel_rfl))
  f20 := Tryz.func170.trans (congrArg some (by kernel_rfl))
  f30 := ⟨Tryz.f178.name, by decide, Tryz.func178.trans (congrArg some (by kernel_rfl))⟩
  f31 := Tryz.func179.trans (congrArg some (by kernel_rfl))
  f32 := Tryz.func180.trans (congrArg some (by kernel_rfl))
  f33 := ⟨Tryz.f181.name, by decide, Tryz.func181.trans (congrArg some (by kernel_rfl))⟩
  f34 := ⟨Tryz.f182.name, by decide, Tryz.func182.trans (congrArg some (by kernel_rfl))⟩
  f35 := ⟨Tryz.f148.name, by decide, Tryz.func148.trans (congrArg some (by kernel_rfl))⟩
  f40 := ⟨Tryz.f185.name, by decide, Tryz.func185.trans (congrArg some (by kernel_rfl))⟩
  t0 := Tryz.underlying0
  a0 := Tryz.isAgg0
  z0 := Tryz.sizeOf0
  v0 := Tryz.zeroValue0
  t3 := Tryz.underlying3
  a3 := Tryz.isAgg3
  z3 := Tryz.sizeOf3
  v3 := Tryz.zeroValue3
  t4 := Tryz.underlying4
  a4 := Tryz.isAgg4
  z4 := Tryz.sizeOf4
  v4 := Tryz.zeroValue4
  t5 := Tryz.underlying5
  a5 := Tryz.isAgg5
  z5 := Tryz.sizeOf5
  v5 := Tryz.zeroValue5
  t9 := Tryz.underlying9
  a9 := Tryz.isAgg9
  z9 := Tryz.sizeOf9
  v9 := Tryz.zeroValue9
  t22 := Tryz.underlying35
  a22 := Tryz.isAgg35
  z22 := Tryz.sizeOf35
  v22 := Tryz.zeroValue35
  t23 := Tryz.underlying35
  a23 := Tryz.isAgg35
  z23 := Tryz.sizeOf35
  v23 := Tryz.zeroValue35
  t25 := Tryz.underlying3
  a25 := Tryz.isAgg3
  z25 := Tryz.sizeOf3
  v25 := Tryz.zeroValue3
  t32 := Tryz.underlying84
  a32 := Tryz.isAgg84
  z32 := Tryz.sizeOf84
  v32 := Tryz.zeroValue84
  t35 := Tryz.underlying176
  a35 := Tryz.isAgg176
  z35 := Tryz.sizeOf176
  v35 := Tryz.zeroValue176
  t36 := Tryz.underlying177
  a36 := Tryz.isAgg177
  z36 := Tryz.sizeOf177
  v36 := Tryz.zeroValue177
  t41 := Tryz.underlying182
  a41 := Tryz.isAgg182
  z41 := Tryz.sizeOf182
  v41 := Tryz.zeroValue182
  t44 := Tryz.underlying185
  a44 := Tryz.isAgg185
  z44 := Tryz.sizeOf185
  v44 := Tryz.zeroValue185
  t46 := Tryz.underlying187
  a46 := Tryz.isAgg187
  z46 := Tryz.sizeOf187
  v46 := Tryz.zeroValue187
  t53 := Tryz.underlying196
  a53 := Tryz.isAgg196
  z53 := Tryz.sizeOf196
  v53 := Tryz.zeroValue196
  t57 := Tryz.underlying200
  a57 := Tryz.isAgg200
  z57 := Tryz.sizeOf200
  v57 := Tryz.zeroValue200
  t63 := Tryz.underlying204
  a63 := Tryz.isAgg204
  z63 := Tryz.sizeOf204
  v63 := Tryz.zeroValue204
  t64 := Tryz.underlying205
  a64 := Tryz.isAgg205
  z64 := Tryz.sizeOf205
  v64 := Tryz.zeroValue205 }
end Go.Proofs

/-
  Walks of small functions: ranges, heads.
-/
namespace Go.Proofs.YtollegoajlfdiaaGreat
open Go.RowKit Lg

theorem in6_any (a b c : Int) (w : World) :
    Calls Tryz.prog 66 #[.int .i64 a, .int .i64 b, .int .i64 c] w fun e w' => e = .returned (.bool (inn a b c)) ∧ w = w' := by
  go_enter Tryz.func66, Tryz.ntmps66
  go_wp2
  all_goals (go_ret; exact ⟨by simp [inn, *] <;> omega, rfl⟩)

theorem within5_any (a b c : Int) (w : World) :
    Calls Tryz.prog 102 #[.int .i64 a, .int .i64 b, .int .i64 c] w fun e w' => e = .returned (.bool (inn a b c)) ∧ w = w' := by
  go_enter Tryz.func102, Tryz.ntmps102
  go_wp2
  all_goals (go_ret; exact ⟨by simp [inn, *] <;> omega, rfl⟩)

set_option maxRecDepth 100000 in
set_option maxHeartbeats 400000 in
theorem headR_any (x : Rate) (w : World) :
    Calls Tryz.prog 115 #[aR x] w (Gives w (aH x.head)) := by
  have hta : ∀ (v : Value) (w : World), (Instr.typeAssert (.iface 26 v) 20 26 true).run Tryz.prog w = .ok (.tuple #[v, .bool true]) w := fun _ _ => by kernel_rfl
  go_enter Tryz.func115, Tryz.ntmps115
  go_wp2
  refine bodyPost_ret (v := aH x.head) (by simp [results, Tryz.results115, go_sem, Rate.head]) rfl ⟨rfl, ?_⟩
  repeat (first | exact Below.refl _ _ | refine Below.alloc ?_ (by simp <;> omega) _ | refine Below.setCell ?_ (by simp) _ | refine Below.drew ?_)

set_option maxRecDepth 100000 in
set_option maxHeartbeats 400000 in
theorem headS_any (x : Sale) (w : World) :
    Calls Tryz.prog 128 #[aS x] w (Gives w (aH x.head)) := by
  have hta : ∀ (v : Value) (w : World), (Instr.typeAssert (.iface 39 v) 20 39 true).run Tryz.prog w = .ok (.tuple #[v, .bool true]) w := fun _ _ => by kernel_rfl
  have htb : ∀ (v : Value) (w : World), (Instr.typeAssert (.iface 39 v) 20 26 true).run Tryz.prog w = .ok (.tuple #[.agg #[.int .i64 0, .int .i64 0, .int .i64 0, .string ⟨#[]⟩, .int .i64 0, .int .i64 0, .int .i64 0, .int .i64 0, .int .i64 0], .bool false]) w := fun _ _ => by kernel_rfl
  go_enter Tryz.func128, Tryz.ntmps128
  go_wp2
  refine bodyPost_ret (v := aH x.head) (by simp [results, Tryz.results128, go_sem, Sale.head]) rfl ⟨rfl, ?_⟩
  repeat (first | exact Below.refl _ _ | refine Below.alloc ?_ (by simp <;> omega) _ | refine Below.setCell ?_ (by simp) _ | refine Below.drew ?_)
end Go.Proofs.YtollegoajlfdiaaGreat

/-
  Walks: the predicate inside counting.
-/
namespace Go.Proofs.YtollegoajlfdiaaGreat
open Go.RowKit Lg Go.Sort

theorem regrown_call {w : World} {f : FuncId} {args : Array Value} {v : Value} (h : ∀ W, Below w.heap.size w W → Calls Tryz.prog f args W (Gives W v)) :
    ∀ d os, Calls Tryz.prog f args (grow (redrawn w d) os) fun e w'' => e = .returned v ∧ ∃ p : Regrown, w'' = grow (redrawn w p.d) p.os :=
  fun d os => Calls.regrown_of (h _ (below_regrown w d os))

theorem box_regrown {w W : World} {cs : Array Value} {t : TypeId} (hW : W = w.alloc (.cells cs t)) (j d : Nat) (os : Array Obj) : (grow (redrawn W d) os).cell? ⟨w.heap.size, j, none⟩ = cs[j]? := by
  subst hW
  rw [(below_regrown _ d os).cell (by simp)]
  exact cell_of_row _ _ _ _ _ _ (heap_alloc_new w _)

theorem fieldH (a b c : Value) (w : World) : (Instr.field 143 (.agg #[a, b, c]) 0).run Tryz.prog w = .ok a w ∧ (Instr.field 143 (.agg #[a, b, c]) 1).run Tryz.prog w = .ok b w ∧ (Instr.field 143 (.agg #[a, b, c]) 2).run Tryz.prog w = .ok c w :=
  ⟨by kernel_rfl, by kernel_rfl, by kernel_rfl⟩

set_option maxRecDepth 100000 in
set_option maxHeartbeats 400000 in
theorem voidR_any (x : Rate) (h : Head) (known : Int) (B1 B2 : Nat) (w : World) (c1 : w.cell? ⟨B1, 0, none⟩ = some (.int .i64 h.id)) (c2 : w.cell? ⟨B2, 0, none⟩ = some (.int .i64 known)) :
    Calls Tryz.prog 134 #[aR x, .pointer (some ⟨B1, 0, none⟩), .pointer (some ⟨B2, 0, none⟩)] w (Gives w (.bool (voids h x.head known))) := by
  obtain ⟨W, hW⟩ : ∃ W, W = w.alloc (.cells #[.int .i64 x.id, .int .i64 x.known, .int .i64 x.from_, .string x.goods, .int .i64 x.finder.num, .int .i64 x.finder.den, .int .i64 x.cart, .int .i64 x.store, .int .i64 x.of_] 26) := ⟨_, rfl⟩
  have b1 : _ < _ := block_lt_of_cell c1
  have b2 : _ < _ := block_lt_of_cell c2
  have hB : Below w.heap.size w W := hW ▸ (Below.refl _ w).alloc (Nat.le_refl _) _
  have k1 := cell_regrown ((hB.cell (p := ⟨B1, 0, none⟩) b1).trans c1)
  have k2 := cell_regrown ((hB.cell (p := ⟨B2, 0, none⟩) b2).trans c2)
  have k3 := box_regrown hW
  have fh := fieldH
  have cH := regrown_call (w := W) (v := .agg #[.int .i64 x.id, .int .i64 x.known, .int .i64 x.of_]) (fun W' _ => headR_any x W')
  go_enter Tryz.func134, Tryz.ntmps134
  go_wp2
  rw [← hW]; clear hW
  by_cases hid : x.of_ = h.id
  · have g1 : (x.of_ == h.id) = true := by simp [hid]
    have H := Lib.hid hid; clear hid
    refine wp_region_quiet_below (by kernel_rfl) (by kernel_rfl) ?_
    repeat (quiet_step (first | exact cH _ _))
    refine wpQuiet_nil ?_
    intro _ hw'
    obtain ⟨⟨dq, osq⟩, hw''⟩ := hw'
    subst hw''
    go_wp2
    go_ret
    exact ⟨by simp [voids, Rate.head, H.out], hB.trans ((below_regrown W dq osq).mono hB.size)⟩
  · have g1 : (x.of_ == h.id) = false := by simp [hid]
    have H := Lib.hid hid; clear hid
    refine wp_region_quiet_below (by kernel_rfl) (by kernel_rfl) ?_
    repeat (quiet_step (first | exact cH _ _))
    refine wpQuiet_nil ?_
    intro _ hw'
    obtain ⟨⟨dq, osq⟩, hw''⟩ := hw'
    subst hw''
    go_wp2
    go_ret
    exact ⟨by simp [voids, Rate.head, H.out], hB.trans ((below_regrown W dq osq).mono hB.size)⟩

end Go.Proofs.YtollegoajlfdiaaGreat

/-
  A load of many cells inside a region that draws its order.
-/
namespace Go.Proofs.YtollegoajlfdiaaGreat
open Go.RowKit Lg Go.Sort

theorem wpQuiet_load_mid {P : Program} {ops : Array Oper} {C : World → Prop} {Q : Act → Prop} {rest : List Oper} {op : Oper} {a : Act} (ty : TypeId) (x : Operand) (ho : op.op = .load ty x)
    (b o : Nat) (hx : a.eval x = .pointer (some ⟨b, o, none⟩)) (cs : List Value) (d : TypeDesc) (hc : ∀ w, C w → w.rangeAt b o cs)
    (hu : P.underlying ty = some d) (hd : d.isRow = true) (hi : (P.info? ty).map (·.size) = some cs.length) (hw : Region.wanted op (yielded ops a.tmps) = true)
    (h : wpQuiet P ops C Q rest (a.put op.dst (.agg cs.toArray))) : wpQuiet P ops C Q (op :: rest) a := by
  unfold wpQuiet
  rw [if_pos hw]
  refine ⟨_, fun w hCw => ?_, h⟩
  unfold Oper.quietAt execOp
  simp only [ho, hx, Instr.loadAt, Instr.sureAddr, Sem.run_bind, Sem.run_pure, Result.andThen_ok, run_loadVar_mid w b o ty cs d (hc w hCw) hu hd hi]
  exact ⟨rfl, rfl⟩

theorem rangeAt_regrown {w : World} {b o : Nat} {cs : List Value} (hb : b < w.heap.size) (h : w.rangeAt b o cs) : ∀ w', (∃ p : Regrown, w' = grow (redrawn w p.d) p.os) → w'.rangeAt b o cs := by
  rintro w' ⟨p, rfl⟩
  exact rangeAt_below (below_regrown w p.d p.os) hb h

theorem Lst.take {α : Type} {w : World} {k : Nat} {enc : α → List Value} {a : Option Addr} {n cap : Nat} {xs : List α} (h : Lst w k enc a n cap xs) (m : Nat) (hm : m ≤ n) : Lst w k enc a m m (xs.take m) :=
  ⟨by rw [List.length_take, h.len]; omega, Nat.le_refl _, Nat.le_trans hm (Nat.le_trans h.le h.max), fun i x hx => by
    have hi : i < m := by have := (List.getElem?_eq_some_iff.1 hx).1; rw [List.length_take] at this; omega
    rw [List.getElem?_take_of_lt hi] at hx
    exact h.at_ i x hx⟩

/-- A whole record stored, as the walk shows it. -/
theorem putR (w : World) (B : Nat) (x : Rate) : (((((((((w.setCell ⟨B, 0, none⟩ (.int .i64 x.id)).setCell ⟨B, 1, none⟩ (.int .i64 x.known)).setCell ⟨B, 2, none⟩ (.int .i64 x.from_)).setCell ⟨B, 3, none⟩ (.string x.goods)).setCell ⟨B, 4, none⟩ (.int .i64 x.finder.num)).setCell ⟨B, 5, none⟩ (.int .i64 x.finder.den)).setCell ⟨B, 6, none⟩ (.int .i64 x.cart)).setCell ⟨B, 7, none⟩ (.int .i64 x.store)).setCell ⟨B, 8, none⟩ (.int .i64 x.of_)) = w.setCells B 0 (cR x) := rfl
theorem putR0 (w : World) (B : Nat) : (((((((((w.setCell ⟨B, 0, none⟩ (.int .i64 0)).setCell ⟨B, 1, none⟩ (.int .i64 0)).setCell ⟨B, 2, none⟩ (.int .i64 0)).setCell ⟨B, 3, none⟩ (.string ⟨#[]⟩)).setCell ⟨B, 4, none⟩ (.int .i64 0)).setCell ⟨B, 5, none⟩ (.int .i64 0)).setCell ⟨B, 6, none⟩ (.int .i64 0)).setCell ⟨B, 7, none⟩ (.int .i64 0)).setCell ⟨B, 8, none⟩ (.int .i64 0)) = w.setCells B 0 (cR zeroRate) := rfl
theorem putS (w : World) (B : Nat) (x : Sale) : (((((((((w.setCell ⟨B, 0, none⟩ (.int .i64 x.id)).setCell ⟨B, 1, none⟩ (.int .i64 x.known)).setCell ⟨B, 2, none⟩ (.int .i64 x.hour)).setCell ⟨B, 3, none⟩ (.int .i64 x.parcel)).setCell ⟨B, 4, none⟩ (.int .i64 x.price)).setCell ⟨B, 5, none⟩ (.int .i64 x.carter)).setCell ⟨B, 6, none⟩ (.int .i64 x.keeper)).setCell ⟨B, 7, none⟩ (.int .i64 x.since)).setCell ⟨B, 8, none⟩ (.int .i64 x.of_)) = w.setCells B 0 (cS x) := rfl
theorem putS0 (w : World) (B : Nat) : (((((((((w.setCell ⟨B, 0, none⟩ (.int .i64 0)).setCell ⟨B, 1, none⟩ (.int .i64 0)).setCell ⟨B, 2, none⟩ (.int .i64 0)).setCell ⟨B, 3, none⟩ (.int .i64 0)).setCell ⟨B, 4, none⟩ (.int .i64 0)).setCell ⟨B, 5, none⟩ (.int .i64 0)).setCell ⟨B, 6, none⟩ (.int .i64 0)).setCell ⟨B, 7, none⟩ (.int .i64 0)).setCell ⟨B, 8, none⟩ (.int .i64 0)) = w.setCells B 0 (cS zeroSale) := rfl

end Go.Proofs.YtollegoajlfdiaaGreat

/-
  Lists in rows of the call's own; copies of lists.
-/
namespace Go.Proofs.YtollegoajlfdiaaGreat
open Go.RowKit Lg Go.Sort Go.Shelf

theorem flat_get {α : Type} (enc : α → List Value) (k : Nat) (hk : ∀ x, (enc x).length = k) (xs : List α) (j : Nat) (u : Value) (h : (xs.flatMap enc)[j]? = some u) : ∃ i x r, xs[i]? = some x ∧ (enc x)[r]? = some u ∧ j = i * k + r := by
  induction xs generalizing j with
  | nil => simp at h
  | cons x xs ih =>
    rw [List.flatMap_cons, List.getElem?_append] at h
    split at h
    · exact ⟨0, x, j, rfl, h, by omega⟩
    · rename_i hj
      obtain ⟨i, y, r, h1, h2, h3⟩ := ih _ h
      rw [hk] at hj h3
      exact ⟨i + 1, y, r, by simpa using h1, h2, by rw [Nat.add_mul]; omega⟩

theorem flat_len {α : Type} (enc : α → List Value) (k : Nat) (hk : ∀ x, (enc x).length = k) (xs : List α) : (xs.flatMap enc).length = xs.length * k := by
  induction xs with
  | nil => simp
  | cons x xs ih => rw [List.flatMap_cons, List.length_append, ih, hk, List.length_cons, Nat.add_mul]; omega

theorem flat_put {α : Type} (enc : α → List Value) (k : Nat) (hk : ∀ x, (enc x).length = k) (xs : List α) (i r : Nat) (x : α) (u : Value) (h1 : xs[i]? = some x) (h2 : (enc x)[r]? = some u) : (xs.flatMap enc)[i * k + r]? = some u := by
  induction xs generalizing i with
  | nil => simp at h1
  | cons y ys ih =>
    rw [List.flatMap_cons]
    have hr : r < k := by rw [← hk x]; exact (List.getElem?_eq_some_iff.1 h2).1
    cases i with
    | zero =>
      simp at h1; subst h1
      rw [List.getElem?_append_left (by rw [hk]; omega), Nat.zero_mul, Nat.zero_add]; exact h2
    | succ i =>
      rw [List.getElem?_append_right (by rw [hk, Nat.add_mul]; omega), hk]
      have := ih i (by simpa using h1)
      rw [show (i + 1) * k + r - k = i * k + r by rw [Nat.add_mul]; omega]
      exact this

/-- What a list's cells are, as one run. -/
theorem Lst.cells {α : Type} {w : World} {k : Nat} {enc : α → List Value} {b off : Nat} {n cap : Nat} {xs : List α} (hk : ∀ x, (enc x).length = k) (h : Lst w k enc (some ⟨b, off, none⟩) n cap xs) (j : Nat) (u : Value) (hj : (xs.flatMap enc)[j]? = some u) : w.cell? ⟨b, off + j, none⟩ = some u := by
  obtain ⟨i, x, r, h1, h2, rfl⟩ := flat_get enc k hk xs j u hj
  obtain ⟨b', off', ha, _, hr⟩ := h.at_ i x h1
  cases ha
  rw [← Nat.add_assoc]
  exact hr r u h2

/-- A row of one's own is a list in memory. -/
theorem Lst.of_owns {α : Type} {w : World} {base : Nat} {e : TypeId} {k : Nat} {enc : α → List Value} {v : Value} {n : Nat} {xs : List α} (hk : ∀ x, (enc x).length = k) (_hk0 : 0 < k) (h : w.ownsRow base e k v n (xs.flatMap enc)) (hl : xs.length = n) :
    ∃ a cap, v = .slice a n cap ∧ (∀ ad, a = some ad → ∃ b, base ≤ b ∧ ad = ⟨b, 0, none⟩) ∧ Lst w k enc a n cap xs := by
  obtain ⟨h0, h1 | ⟨g, cap, cur, hv, hb, hg, hnc, hcm, hcur, htk⟩⟩ := h
  · obtain ⟨rfl, rfl⟩ := h1
    refine ⟨none, 0, rfl, fun _ h => (by cases h), ?_⟩
    have : xs = [] := List.eq_nil_of_length_eq_zero hl
    subst this
    exact Lst.nil w k enc
  · refine ⟨_, cap, hv, fun ad h => ⟨g, hb, by cases h; rfl⟩, hl, hnc, hcm, fun i x hx => ⟨g, 0, rfl, (Array.getElem?_eq_some_iff.1 hg).1, fun j u hu => ?_⟩⟩
    have hp := flat_put enc k hk xs i j x u hx hu
    rw [← htk] at hp
    have hj : i * k + j < n * k := by
      have := (List.getElem?_eq_some_iff.1 hp).1
      rw [List.length_take] at this; omega
    rw [List.getElem?_take_of_lt hj] at hp
    simp only [World.cell?, hg, Nat.zero_add]
    simpa using hp

theorem ownsRow_flat {α : Type} {w : World} {base : Nat} {e : TypeId} {k : Nat} {enc : α → List Value} {v : Value} {n : Nat} {xs : List α} (hk : ∀ x, (enc x).length = k) (hk0 : 0 < k) (h : w.ownsRow base e k v n (xs.flatMap enc)) : xs.length = n := by
  have := h.1; rw [flat_len enc k hk] at this; exact Nat.eq_of_mul_eq_mul_right hk0 this

theorem cR_one (x : Rate) : ∀ u ∈ cR x, u.oneCell' = true := by simp [cR, Value.oneCell']
theorem flat_one {α : Type} (enc : α → List Value) (h : ∀ x, ∀ u ∈ enc x, u.oneCell' = true) (xs : List α) : ∀ u ∈ xs.flatMap enc, u.oneCell' = true := fun u hu => by
  obtain ⟨x, _, hx⟩ := List.mem_flatMap.1 hu
  exact h x u hx

theorem infoR : (Tryz.prog.info? 26).map (fun i => (i.zero, i.size, i.bytes)) = some (some (aR zeroRate), 9, 80) := by kernel_rfl
theorem infoI : (Tryz.prog.info? 3).map (fun i => (i.zero, i.size, i.bytes)) = some (some (.int .i64 0), 1, 8) := by kernel_rfl
theorem infoSh : (Tryz.prog.info? 69).map (fun i => (i.zero, i.size, i.bytes)) = some (some (.agg #[.int .i64 0, .int .i64 0]), 2, 16) := by kernel_rfl
theorem infoF : (Tryz.prog.info? 24).map (fun i => (i.zero, i.size, i.bytes)) = some (some (.agg #[.int .i64 0, .int .i64 0]), 2, 16) := by kernel_rfl

/-- The address of a slice, if there is one, is the plain one. -/
def Plain (a : Option Addr) : Prop := ∀ ad, a = some ad → ∃ b off, ad = ⟨b, off, none⟩

theorem cloneR_any (a : Option Addr) (n cap : Nat) (xs : List Rate) (w : World) (hA : Plain a) (hn : n ≤ 1000) (hL : Lst w 9 cR a n cap xs) :
    Calls Tryz.prog 73 #[.slice a n cap] w fun e w' => ∃ v', e = .returned v' ∧ w'.ownsRow w.heap.size 26 9 v' n (xs.flatMap cR) ∧ RowKit.Below w.heap.size w w' := by
  obtain ⟨i0, hi, hz0, hz1, hz2⟩ := info_parts infoR
  cases a with
  | none =>
    have h0 : xs = [] := by
      cases xs with
      | nil => rfl
      | cons x xs => obtain ⟨b, off, ha, _⟩ := hL.at_ 0 x rfl; cases ha
    subst h0
    have hl := hL.len
    simp at hl; subst hl
    refine (AnyE.slices_Clone_nil Tryz.cloneRate 0 cap w).mono ?_
    rintro e w' ⟨rfl, rfl⟩
    exact ⟨_, rfl, ⟨rfl, .inl ⟨rfl, rfl⟩⟩, Below.refl _ _⟩
  | some ad =>
    obtain ⟨b, off, rfl⟩ := hA ad rfl
    refine (AnyE.slices_Clone Tryz.cloneRate i0 _ 9 80 hi hz0 hz1 hz2 rfl (by omega) Tryz.sizeOf26 b off n cap (xs.flatMap cR) w (by rw [flat_len cR 9 (fun _ => rfl), hL.len]) (by unfold maxLen; omega) (by omega) (hL.cells (fun _ => rfl)) (flat_one cR cR_one xs)).mono ?_
    rintro e w' ⟨v', rfl, h1, _, h2⟩
    exact ⟨v', rfl, h1, h2⟩

end Go.Proofs.YtollegoajlfdiaaGreat

/-
  Sorting and compacting a row of the call's own.
-/
namespace Go.Proofs.YtollegoajlfdiaaGreat
open Go.RowKit Lg Go.Sort Go.Shelf

theorem flat_int (zs : List Int) : zs.flatMap cI = zs.map (Value.int .i64) := by
  induction zs with
  | nil => rfl
  | cons z zs ih => rw [List.flatMap_cons, ih]; rfl

theorem grownBy_putRow {enc : Int → Value} {w : World} {g q : Nat} {d : Array Int} : w.grownBy (putRow enc (Sort.ahead w q) g 0 d) (some g) := by
  refine ⟨rfl, rfl, rfl, by simp, fun k hk hne => ?_⟩
  have : g ≠ k := fun e => hne (by rw [e])
  simp [putRow, mapBlock, Sort.ahead, Array.getElem?_modify, this]

theorem below_of_grown {n : Nat} {w w' W : World} {row : Option Nat} (h : RowKit.Below n W w) (hn : n ≤ W.heap.size) (hg : w.grownBy w' row) (hr : ∀ r, row = some r → n ≤ r) : RowKit.Below n W w' :=
  h.grown hg (Nat.le_trans hn h.size) (fun k e => hr k e)

theorem sortOwn (base n : Nat) (v : Value) (zs : List Int) (w : World) (hn : n ≤ 1000000) (ho : w.ownsRow base 3 1 v n (zs.map (Value.int .i64))) :
    Calls Tryz.prog 90 #[v] w fun e w' => e = .returned (.tuple #[]) ∧ w'.ownsRow base 3 1 v n ((zs.mergeSort fun x y => decide (x ≤ y)).map (Value.int .i64)) ∧ w.grownBy w' v.ownBlock := by
  have hl : zs.length = n := by simpa using ho.1
  obtain ⟨h0, ⟨rfl, rfl⟩ | ⟨g, cap, cur, rfl, hb, hg, hnc, hcm, hcur, htk⟩⟩ := ho
  · have : zs = [] := List.eq_nil_of_length_eq_zero hl
    subst this
    refine (Tryz.slices_Sort_int_none none 0 w).mono ?_
    rintro e w' ⟨rfl, rfl⟩
    exact ⟨rfl, ⟨by simp, .inl ⟨rfl, rfl⟩⟩, ⟨rfl, rfl, rfl, Nat.le_refl _, fun _ _ _ => rfl⟩⟩
  · obtain ⟨g', cap', hv, hb', hgl, _, _, _, hH⟩ := Lib.holds_of_ownsRow (enc := Value.int .i64) ⟨h0, .inr ⟨g, cap, cur, rfl, hb, hg, hnc, hcm, hcur, htk⟩⟩ (by simp)
    cases hv
    have hs := Tryz.slices_Sort_int g 0 cap zs w hH hgl (by omega)
    rw [hl] at hs
    refine hs.mono ?_
    rintro e w' ⟨rfl, nn, os, rfl⟩
    have ht : (zs.mergeSort fun x y => decide (x ≤ y)).length = zs.length := List.length_mergeSort zs
    have := ownsRow_sortedI (n := nn) (os := os) ht hb hg (by omega) hcm hcur
    rw [hl] at this
    exact ⟨rfl, this, grownBy_sortedI _⟩

theorem compactOwn (base n : Nat) (v : Value) (zs : List Int) (w : World) (hn : n ≤ 1000000) (ho : w.ownsRow base 3 1 v n (zs.map (Value.int .i64))) :
    Calls Tryz.prog 95 #[v] w fun e w' => ∃ v', e = .returned v' ∧ w'.ownsRow base 3 1 v' (Lib.compact zs).length ((Lib.compact zs).map (Value.int .i64)) ∧ w.grownBy w' v.ownBlock ∧ v'.ownBlock = v.ownBlock := by
  have hl : zs.length = n := by simpa using ho.1
  have ho' := ho
  obtain ⟨h0, ⟨rfl, rfl⟩ | ⟨g, cap, cur, rfl, hb, hg, hnc, hcm, hcur, htk⟩⟩ := ho
  · have : zs = [] := List.eq_nil_of_length_eq_zero hl
    subst this
    refine (Tryz.slices_Compact_int_empty none 0 w).mono ?_
    rintro e w' ⟨rfl, rfl⟩
    exact ⟨_, rfl, ⟨rfl, .inl ⟨rfl, rfl⟩⟩, ⟨rfl, rfl, rfl, Nat.le_refl _, fun _ _ _ => rfl⟩, rfl⟩
  · obtain ⟨g', cap', hv, hb', hgl, _, _, _, hH⟩ := Lib.holds_of_ownsRow ho' (by simp)
    cases hv
    have hle := Lib.compact_length_le zs
    have hs := Tryz.slices_Compact_int g 0 cap zs w hH (by omega) (by omega)
    rw [hl] at hs
    refine hs.mono ?_
    rintro e w' ⟨rfl, q, rfl⟩
    have hc := Lib.ownsRow_putRow (q := q) (k := (Lib.compact zs).length) (ys := Lib.compact zs ++ List.replicate (n - (Lib.compact zs).length) 0) ho' (by simp; omega) (by omega)
    rw [List.take_left] at hc
    exact ⟨_, rfl, hc, grownBy_putRow, rfl⟩

end Go.Proofs.YtollegoajlfdiaaGreat
