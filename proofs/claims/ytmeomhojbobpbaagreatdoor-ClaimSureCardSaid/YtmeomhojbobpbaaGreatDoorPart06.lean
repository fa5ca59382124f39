import Derived.Shelf.LaysM
import Derived.Shelf.LaysC
import Derived.Shelf.Strconv.Itoa3
import Derived.Shelf.Strconv.AtoiAll
import Derived.Shelf.Strings.Split
import Derived.Shelf.Strings.OnBuilder
import Derived.Test.YtmeomhojbobpbaaGreatDoorProg
import Derived.Test.YtmeomhojbobpbaaGreatDoorPart05
import Derived.Lib.ItoaLen
import Derived.Lib.AppendIntMem
import Derived.Sort.Defs
/-
  DERIVED: THE SHELF's CONTRACTS AT THIS DUMP, IN PLAIN WORDS (tools/lay-plain.mjs out of 'YtmeomhojbobpbaaGreatDoorShd.lean', which tools/lay-shelf.mjs wrote): THE SAME DECLARATIONS UNDER THE SAME NAMES: 'import', 'namespace', 'open', 'def', 'theorem' AND NOTHING ELSE: no command of the shelf's: FOR A HAND-IN. Each laying: the table of numbers ('.._ren') and one theorem, a field a fact of the dump's own or the kernel's comparison; each contract: ONE APPLICATION.
-/
namespace Go.Proofs
open Go.Shelf
def Tryz.laysM171_ren : Go.Shelf.Ren := ⟨fun | 171 => 134 | 243 => 173 | 246 => 200 | 283 => 220 | 284 => 221 | 285 => 222 | 286 => 223 | 129 => 197 | 317 => 237 | 318 => 238 | 319 => 239 | 320 => 240 | 337 => 249 | 338 => 250 | n => n, fun | 3 => 3 | 9 => 9 | 2 => 2 | 4 => 4 | 171 => 231 | 0 => 0 | 53 => 210 | 37 => 153 | 5 => 5 | 173 => 233 | 212 => 253 | 51 => 208 | 20 => 20 | 213 => 254 | 46 => 182 | 232 => 266 | 233 => 267 | n => n, fun | 17 => 2 | 18 => 6 | 19 => 7 | n => n⟩
theorem Tryz.laysM171 : Go.Proofs.LaysM.n171 Tryz.prog Tryz.laysM171_ren := {
  mixed := by kernel_rfl
  f129 := Tryz.func197.trans (congrArg some (by kernel_rfl))
  f171 := Tryz.func134.trans (congrArg some (by kernel_rfl))
  f243 := Tryz.func173.trans (congrArg some (by kernel_rfl))
  f246 := Tryz.func200.trans (congrArg some (by kernel_rfl))
  f283 := Tryz.func220.trans (congrArg some (by kernel_rfl))
  f284 := Tryz.func221.trans (congrArg some (by kernel_rfl))
  f285 := Tryz.func222.trans (congrArg some (by kernel_rfl))
  f286 := Tryz.func223.trans (congrArg some (by kernel_rfl))
  f317 := Tryz.func237.trans (congrArg some (by kernel_rfl))
  f318 := Tryz.func238.trans (congrArg some (by kernel_rfl))
  f319 := Tryz.func239.trans (congrArg some (by kernel_rfl))
  f320 := Tryz.func240.trans (congrArg some (by kernel_rfl))
  f337 := Tryz.func249.trans (congrArg some (by kernel_rfl))
  f338 := Tryz.func250.trans (congrArg some (by kernel_rfl))
  t0 := Tryz.underlying0
  a0 := Tryz.isAgg0
  z0 := Tryz.sizeOf0
  v0 := Tryz.zeroValue0
  t2 := Tryz.underlying2
  a2 := Tryz.isAgg2
  z2 := Tryz.sizeOf2
  v2 := Tryz.zeroValue2
  t3 := Tryz.underlying3
  a3 := Tryz.isAgg3
  z3 := Tryz.sizeOf3
  v3 := Tryz.zeroValue3
  t4 := Tryz.underlying4
  a4 := Tryz.isAgg4
  z4 := Tryz.sizeOf4
  v4 := Tryz.zeroValue4
  t5 := Tryz.underlying5
  a5 := Tryz.isAgg5
  z5 := Tryz.sizeOf5
  v5 := Tryz.zeroValue5
  t9 := Tryz.underlying9
  a9 := Tryz.isAgg9
  z9 := Tryz.sizeOf9
  v9 := Tryz.zeroValue9
  t20 := Tryz.underlying20
  a20 := Tryz.isAgg20
  z20 := Tryz.sizeOf20
  v20 := Tryz.zeroValue20
  t37 := Tryz.underlying153
  a37 := Tryz.isAgg153
  z37 := Tryz.sizeOf153
  v37 := Tryz.zeroValue153
  t46 := Tryz.underlying182
  a46 := Tryz.isAgg182
  z46 := Tryz.sizeOf182
  v46 := Tryz.zeroValue182
  t51 := Tryz.underlying208
  a51 := Tryz.isAgg208
  z51 := Tryz.sizeOf208
  v51 := Tryz.zeroValue208
  t53 := Tryz.underlying210
  a53 := Tryz.isAgg210
  z53 := Tryz.sizeOf210
  v53 := Tryz.zeroValue210
  t171 := Tryz.underlying231
  a171 := Tryz.isAgg231
  z171 := Tryz.sizeOf231
  v171 := Tryz.zeroValue231
  t173 := Tryz.underlying233
  a173 := Tryz.isAgg233
  z173 := Tryz.sizeOf233
  v173 := Tryz.zeroValue233
  t212 := Tryz.underlying253
  a212 := Tryz.isAgg253
  z212 := Tryz.sizeOf253
  v212 := Tryz.zeroValue253
  t213 := Tryz.underlying254
  a213 := Tryz.isAgg254
  z213 := Tryz.sizeOf254
  t232 := Tryz.underlying266
  a232 := Tryz.isAgg266
  z232 := Tryz.sizeOf266
  v232 := Tryz.zeroValue266
  t233 := Tryz.underlying267
  a233 := Tryz.isAgg267
  z233 := Tryz.sizeOf267
  v233 := Tryz.zeroValue267
  g17 := by kernel_rfl
  g18 := by kernel_rfl
  g19 := by kernel_rfl
  i0 := by kernel_rfl
  i2 := by kernel_rfl
  i3 := by kernel_rfl
  i4 := by kernel_rfl
  i5 := by kernel_rfl
  i9 := by kernel_rfl
  i20 := by kernel_rfl
  i37 := by kernel_rfl
  i46 := by kernel_rfl
  i51 := by kernel_rfl
  i53 := by kernel_rfl
  i171 := by kernel_rfl
  i173 := by kernel_rfl
  i212 := by kernel_rfl
  i232 := by kernel_rfl
  i233 := by kernel_rfl
  m17 := by kernel_rfl
  m18 := by kernel_rfl
  m19 := by kernel_rfl }
open Go.RowKit Go.Sort Go.Lib in
theorem Tryz.strconv_Itoa (n : Int) (h0 : -9223372036854775808 ≤ n) (h1 : n ≤ 9223372036854775807) (w : World) (htab : Lib.TabIs Tryz.prog w "internal/strconv.uint64pow10" .u64 Lib.pow10Tab) :
    Calls Tryz.prog 134 #[.int .i64 n] w fun e w' => e = .returned (.string ⟨(Lib.itoa n).toArray⟩) ∧ ∃ k os, w' = grow (w.drewN k) os := Any.strconv_Itoa Tryz.laysM171 n h0 h1 w htab
def Tryz.laysC172_ren : Go.Shelf.Ren := ⟨fun | 172 => 140 | 244 => 178 | 245 => 179 | 247 => 206 | 279 => 207 | 280 => 208 | 281 => 209 | 282 => 210 | 287 => 230 | 316 => 231 | 171 => 134 | 205 => 232 | 321 => 246 | 322 => 247 | 243 => 173 | 246 => 200 | 283 => 220 | 284 => 221 | 285 => 222 | 286 => 223 | 129 => 197 | 317 => 237 | 318 => 238 | 319 => 239 | 320 => 240 | 337 => 249 | 338 => 250 | n => n, fun | 9 => 9 | 3 => 3 | 75 => 156 | 76 => 157 | 4 => 4 | 5 => 5 | 167 => 217 | 37 => 153 | 0 => 0 | 85 => 218 | 2 => 2 | 168 => 220 | 53 => 210 | 175 => 241 | 46 => 182 | 210 => 245 | 127 => 214 | 145 => 259 | 143 => 257 | 21 => 21 | 171 => 231 | 173 => 233 | 212 => 253 | 51 => 208 | 20 => 20 | 213 => 254 | 232 => 266 | 233 => 267 | 80 => 189 | n => n, fun | 15 => 0 | 16 => 1 | 17 => 2 | 18 => 6 | 19 => 7 | n => n⟩
theorem Tryz.laysC172 : Go.Proofs.LaysC.n172 Tryz.prog Tryz.laysC172_ren := {
  mixed := by kernel_rfl
  f129 := Tryz.func197.trans (congrArg some (by kernel_rfl))
  f171 := Tryz.func134.trans (congrArg some (by kernel_rfl))
  f172 := Tryz.func140.trans (congrArg some (by kernel_rfl))
  f205 := Tryz.func232.trans (congrArg some (by kernel_rfl))
  f243 := Tryz.func173.trans (congrArg some (by kernel_rfl))
  f244 := Tryz.func178.trans (congrArg some (by kernel_rfl))
  f245 := Tryz.func179.trans (congrArg some (by kernel_rfl))
  f246 := Tryz.func200.trans (congrArg some (by kernel_rfl))
  f247 := Tryz.func206.trans (congrArg some (by kernel_rfl))
  f279 := Tryz.func207.trans (congrArg some (by kernel_rfl))
  f280 := Tryz.func208.trans (congrArg some (by kernel_rfl))
  f281 := Tryz.func209.trans (congrArg some (by kernel_rfl))
  f282 := Tryz.func210.trans (congrArg some (by kernel_rfl))
  f283 := Tryz.func220.trans (congrArg some (by kernel_rfl))
  f284 := Tryz.func221.trans (congrArg some (by kernel_rfl))
  f285 := Tryz.func222.trans (congrArg some (by kernel_rfl))
  f286 := Tryz.func223.trans (congrArg some (by kernel_rfl))
  f287 := Tryz.func230.trans (congrArg some (by kernel_rfl))
  f316 := Tryz.func231.trans (congrArg some (by kernel_rfl))
  f317 := Tryz.func237.trans (congrArg some (by kernel_rfl))
  f318 := Tryz.func238.trans (congrArg some (by kernel_rfl))
  f319 := Tryz.func239.trans (congrArg some (by kernel_rfl))
  f320 := Tryz.func240.trans (congrArg some (by kernel_rfl))
  f321 := Tryz.func246.trans (congrArg some (by kernel_rfl))
  f322 := Tryz.func247.trans (congrArg some (by kernel_rfl))
  f337 := Tryz.func249.trans (congrArg some (by kernel_rfl))
  f338 := Tryz.func250.trans (congrArg some (by kernel_rfl))
  t0 := Tryz.underlying0
  a0 := Tryz.isAgg0
  z0 := Tryz.sizeOf0
  v0 := Tryz.zeroValue0
  t2 := Tryz.underlying2
  a2 := Tryz.isAgg2
  z2 := Tryz.sizeOf2
  v2 := Tryz.zeroValue2
  t3 := Tryz.underlying3
  a3 := Tryz.isAgg3
  z3 := Tryz.sizeOf3
  v3 := Tryz.zeroValue3
  t4 := Tryz.underlying4
  a4 := Tryz.isAgg4
  z4 := Tryz.sizeOf4
  v4 := Tryz.zeroValue4
  t5 := Tryz.underlying5
  a5 := Tryz.isAgg5
  z5 := Tryz.sizeOf5
  v5 := Tryz.zeroValue5
  t9 := Tryz.underlying9
  a9 := Tryz.isAgg9
  z9 := Tryz.sizeOf9
  v9 := Tryz.zeroValue9
  t20 := Tryz.underlying20
  a20 := Tryz.isAgg20
  z20 := Tryz.sizeOf20
  v20 := Tryz.zeroValue20
  t21 := Tryz.underlying21
  a21 := Tryz.isAgg21
  z21 := Tryz.sizeOf21
  v21 := Tryz.zeroValue21
  t37 := Tryz.underlying153
  a37 := Tryz.isAgg153
  z37 := Tryz.sizeOf153
  v37 := Tryz.zeroValue153
  t46 := Tryz.underlying182
  a46 := Tryz.isAgg182
  z46 := Tryz.sizeOf182
  v46 := Tryz.zeroValue182
  t51 := Tryz.underlying208
  a51 := Tryz.isAgg208
  z51 := Tryz.sizeOf208
  v51 := Tryz.zeroValue208
  t53 := Tryz.underlying210
  a53 := Tryz.isAgg210
  z53 := Tryz.sizeOf210
  v53 := Tryz.zeroValue210
  t75 := Tryz.underlying156
  a75 := Tryz.isAgg156
  z75 := Tryz.sizeOf156
  v75 := Tryz.zeroValue156
  t76 := Tryz.underlying157
  a76 := Tryz.isAgg157
  z76 := Tryz.sizeOf157
  v76 := Tryz.zeroValue157
  t85 := Tryz.underlying218
  a85 := Tryz.isAgg218
  z85 := Tryz.sizeOf218
  v85 := Tryz.zeroValue218
  t127 := Tryz.underlying214
  a127 := Tryz.isAgg214
  z127 := Tryz.sizeOf214
  v127 := Tryz.zeroValue214
  t143 := Tryz.underlying257
  a143 := Tryz.isAgg257
  z143 := Tryz.sizeOf257
  v143 := Tryz.zeroValue257
  t145 := Tryz.underlying259
  a145 := Tryz.isAgg259
  z145 := Tryz.sizeOf259
  v145 := Tryz.zeroValue259
  t167 := Tryz.underlying217
  a167 := Tryz.isAgg217
  z167 := Tryz.sizeOf217
  v167 := Tryz.zeroValue217
  t168 := Tryz.underlying220
  a168 := Tryz.isAgg220
  z168 := Tryz.sizeOf220
  v168 := Tryz.zeroValue220
  t171 := Tryz.underlying231
  a171 := Tryz.isAgg231
  z171 := Tryz.sizeOf231
  v171 := Tryz.zeroValue231
  t173 := Tryz.underlying233
  a173 := Tryz.isAgg233
  z173 := Tryz.sizeOf233
  v173 := Tryz.zeroValue233
  t175 := Tryz.underlying241
  a175 := Tryz.isAgg241
  z175 := Tryz.sizeOf241
  v175 := Tryz.zeroValue241
  t210 := Tryz.underlying245
  a210 := Tryz.isAgg245
  z210 := Tryz.sizeOf245
  v210 := Tryz.zeroValue245
  t212 := Tryz.underlying253
  a212 := Tryz.isAgg253
  z212 := Tryz.sizeOf253
  v212 := Tryz.zeroValue253
  t213 := Tryz.underlying254
  a213 := Tryz.isAgg254
  z213 := Tryz.sizeOf254
  t232 := Tryz.underlying266
  a232 := Tryz.isAgg266
  z232 := Tryz.sizeOf266
  v232 := Tryz.zeroValue266
  t233 := Tryz.underlying267
  a233 := Tryz.isAgg267
  z233 := Tryz.sizeOf267
  v233 := Tryz.zeroValue267
  g15 := by kernel_rfl
  g16 := by kernel_rfl
  g17 := by kernel_rfl
  g18 := by kernel_rfl
  g19 := by kernel_rfl
  t80 := Tryz.underlying189
  a80 := Tryz.isAgg189
  z80 := Tryz.sizeOf189
  v80 := Tryz.zeroValue189
  i0 := by kernel_rfl
  i2 := by kernel_rfl
  i3 := by kernel_rfl
  i4 := by kernel_rfl
  i5 := by kernel_rfl
  i9 := by kernel_rfl
  i20 := by kernel_rfl
  i21 := by kernel_rfl
  i37 := by kernel_rfl
  i46 := by kernel_rfl
  i51 := by kernel_rfl
  i53 := by kernel_rfl
  i75 := by kernel_rfl
  i76 := by kernel_rfl
  i80 := by kernel_rfl
  i85 := by kernel_rfl
  i127 := by kernel_rfl
  i143 := by kernel_rfl
  i145 := by kernel_rfl
  i167 := by kernel_rfl
  i168 := by kernel_rfl
  i171 := by kernel_rfl
  i173 := by kernel_rfl
  i175 := by kernel_rfl
  i210 := by kernel_rfl
  i212 := by kernel_rfl
  i232 := by kernel_rfl
  i233 := by kernel_rfl
  m15 := by kernel_rfl
  m16 := by kernel_rfl
  m17 := by kernel_rfl
  m18 := by kernel_rfl
  m19 := by kernel_rfl
  c0 := by kernel_rfl
  c2 := by kernel_rfl
  c3 := by kernel_rfl
  c4 := by kernel_rfl
  c5 := by kernel_rfl
  c9 := by kernel_rfl
  c20 := by kernel_rfl
  c21 := by kernel_rfl
  c37 := by kernel_rfl
  c46 := by kernel_rfl
  c51 := by kernel_rfl
  c53 := by kernel_rfl
  c75 := by kernel_rfl
  c76 := by kernel_rfl
  c80 := by kernel_rfl
  c85 := by kernel_rfl
  c127 := by kernel_rfl
  c143 := by kernel_rfl
  c145 := by kernel_rfl
  c167 := by kernel_rfl
  c168 := by kernel_rfl
  c171 := by kernel_rfl
  c173 := by kernel_rfl
  c175 := by kernel_rfl
  c210 := by kernel_rfl
  c212 := by kernel_rfl
  c213 := by kernel_rfl
  c232 := by kernel_rfl
  c233 := by kernel_rfl }
open Go.RowKit in
theorem Tryz.strconv_Atoi_ok (s : ByteArray) (hmax : s.size ≤ 9223372036854775806) (v : Int) (h : Lib.atoiAll s.data.toList = .ok v) (w : World) :
    Calls Tryz.prog 140 #[.string s] w fun e w' => e = .returned (.tuple #[.int .i64 v, .nilIface]) ∧ (w' = w ∨ ∃ t, w' = Lib.bytesWorld w 5 t) := Any.strconv_Atoi_ok Tryz.laysC172 s hmax v h w
def Tryz.laysM146_ren : Go.Shelf.Ren := ⟨fun | 146 => 138 | 221 => 177 | 268 => 203 | 138 => 204 | 143 => 205 | 195 => 226 | 197 => 227 | 218 => 228 | 219 => 229 | 260 => 241 | 217 => 242 | 225 => 243 | 224 => 244 | 267 => 245 | 266 => 251 | 314 => 252 | n => n, fun | 9 => 9 | 31 => 100 | 3 => 3 | 4 => 4 | 0 => 0 | 105 => 238 | 21 => 21 | 5 => 5 | 46 => 182 | 119 => 260 | 139 => 263 | 138 => 262 | 146 => 264 | 51 => 208 | n => n, fun | 1 => 3 | 3 => 4 | 4 => 5 | n => n⟩
theorem Tryz.laysM146 : Go.Proofs.LaysM.n146 Tryz.prog Tryz.laysM146_ren := {
  mixed := by kernel_rfl
  f138 := Tryz.func204.trans (congrArg some (by kernel_rfl))
  f143 := Tryz.func205.trans (congrArg some (by kernel_rfl))
  f146 := Tryz.func138.trans (congrArg some (by kernel_rfl))
  f195 := Tryz.func226.trans (congrArg some (by kernel_rfl))
  f197 := Tryz.func227.trans (congrArg some (by kernel_rfl))
  f217 := Tryz.func242.trans (congrArg some (by kernel_rfl))
  f218 := Tryz.func228.trans (congrArg some (by kernel_rfl))
  f219 := Tryz.func229.trans (congrArg some (by kernel_rfl))
  f221 := Tryz.func177.trans (congrArg some (by kernel_rfl))
  f224 := Tryz.func244.trans (congrArg some (by kernel_rfl))
  f225 := Tryz.func243.trans (congrArg some (by kernel_rfl))
  f260 := Tryz.func241.trans (congrArg some (by kernel_rfl))
  f266 := Tryz.func251.trans (congrArg some (by kernel_rfl))
  f267 := Tryz.func245.trans (congrArg some (by kernel_rfl))
  f268 := Tryz.func203.trans (congrArg some (by kernel_rfl))
  f314 := Tryz.func252.trans (congrArg some (by kernel_rfl))
  t0 := Tryz.underlying0
  a0 := Tryz.isAgg0
  z0 := Tryz.sizeOf0
  v0 := Tryz.zeroValue0
  t3 := Tryz.underlying3
  a3 := Tryz.isAgg3
  z3 := Tryz.sizeOf3
  v3 := Tryz.zeroValue3
  t4 := Tryz.underlying4
  a4 := Tryz.isAgg4
  z4 := Tryz.sizeOf4
  v4 := Tryz.zeroValue4
  t5 := Tryz.underlying5
  a5 := Tryz.isAgg5
  z5 := Tryz.sizeOf5
  v5 := Tryz.zeroValue5
  t9 := Tryz.underlying9
  a9 := Tryz.isAgg9
  z9 := Tryz.sizeOf9
  v9 := Tryz.zeroValue9
  t21 := Tryz.underlying21
  a21 := Tryz.isAgg21
  z21 := Tryz.sizeOf21
  v21 := Tryz.zeroValue21
  t31 := Tryz.underlying100
  a31 := Tryz.isAgg100
  z31 := Tryz.sizeOf100
  v31 := Tryz.zeroValue100
  t46 := Tryz.underlying182
  a46 := Tryz.isAgg182
  z46 := Tryz.sizeOf182
  v46 := Tryz.zeroValue182
  t51 := Tryz.underlying208
  a51 := Tryz.isAgg208
  z51 := Tryz.sizeOf208
  v51 := Tryz.zeroValue208
  t105 := Tryz.underlying238
  a105 := Tryz.isAgg238
  z105 := Tryz.sizeOf238
  v105 := Tryz.zeroValue238
  t119 := Tryz.underlying260
  a119 := Tryz.isAgg260
  z119 := Tryz.sizeOf260
  t138 := Tryz.underlying262
  a138 := Tryz.isAgg262
  z138 := Tryz.sizeOf262
  v138 := Tryz.zeroValue262
  t139 := Tryz.underlying263
  a139 := Tryz.isAgg263
  z139 := Tryz.sizeOf263
  v139 := Tryz.zeroValue263
  t146 := Tryz.underlying264
  a146 := Tryz.isAgg264
  z146 := Tryz.sizeOf264
  v146 := Tryz.zeroValue264
  g1 := by kernel_rfl
  g3 := by kernel_rfl
  g4 := by kernel_rfl
  i0 := by kernel_rfl
  i3 := by kernel_rfl
  i4 := by kernel_rfl
  i5 := by kernel_rfl
  i9 := by kernel_rfl
  i21 := by kernel_rfl
  i31 := by kernel_rfl
  i46 := by kernel_rfl
  i51 := by kernel_rfl
  i105 := by kernel_rfl
  i138 := by kernel_rfl
  i139 := by kernel_rfl
  i146 := by kernel_rfl
  m1 := by kernel_rfl
  s1_3 := fun w h => Go.Proofs.cell_of_shapedOpen_int (zero := #[.int .i64 0]) (t := 3) h (of_decide_eq_true (by kernel_rfl)) (by kernel_rfl) rfl (by kernel_rfl) (by kernel_rfl) Tryz.underlying3
  m3 := by kernel_rfl
  m4 := by kernel_rfl }
def Tryz.lays146_ren : Go.Shelf.Ren := ⟨fun | 146 => 138 | 221 => 177 | 268 => 203 | 138 => 204 | 143 => 205 | 195 => 226 | 197 => 227 | 218 => 228 | 219 => 229 | 260 => 241 | 217 => 242 | 225 => 243 | 224 => 244 | 267 => 245 | 266 => 251 | 314 => 252 | n => n, fun | 9 => 9 | 31 => 100 | 3 => 3 | 4 => 4 | 0 => 0 | 105 => 238 | 21 => 21 | 5 => 5 | 46 => 182 | 119 => 260 | 139 => 263 | 138 => 262 | 146 => 264 | 51 => 208 | n => n, fun | 1 => 3 | 3 => 4 | 4 => 5 | n => n⟩
theorem Tryz.lays146 : Go.Proofs.Lays.n146 Tryz.prog Tryz.lays146_ren := {
  mixed := by kernel_rfl
  f138 := Tryz.func204.trans (congrArg some (by kernel_rfl))
  f143 := Tryz.func205.trans (congrArg some (by kernel_rfl))
  f146 := Tryz.func138.trans (congrArg some (by kernel_rfl))
  f195 := Tryz.func226.trans (congrArg some (by kernel_rfl))
  f197 := Tryz.func227.trans (congrArg some (by kernel_rfl))
  f217 := Tryz.func242.trans (congrArg some (by kernel_rfl))
  f218 := Tryz.func228.trans (congrArg some (by kernel_rfl))
  f219 := Tryz.func229.trans (congrArg some (by kernel_rfl))
  f221 := Tryz.func177.trans (congrArg some (by kernel_rfl))
  f224 := Tryz.func244.trans (congrArg some (by kernel_rfl))
  f225 := Tryz.func243.trans (congrArg some (by kernel_rfl))
  f260 := Tryz.func241.trans (congrArg some (by kernel_rfl))
  f266 := Tryz.func251.trans (congrArg some (by kernel_rfl))
  f267 := Tryz.func245.trans (congrArg some (by kernel_rfl))
  f268 := Tryz.func203.trans (congrArg some (by kernel_rfl))
  f314 := Tryz.func252.trans (congrArg some (by kernel_rfl))
  t0 := Tryz.underlying0
  a0 := Tryz.isAgg0
  z0 := Tryz.sizeOf0
  v0 := Tryz.zeroValue0
  t3 := Tryz.underlying3
  a3 := Tryz.isAgg3
  z3 := Tryz.sizeOf3
  v3 := Tryz.zeroValue3
  t4 := Tryz.underlying4
  a4 := Tryz.isAgg4
  z4 := Tryz.sizeOf4
  v4 := Tryz.zeroValue4
  t5 := Tryz.underlying5
  a5 := Tryz.isAgg5
  z5 := Tryz.sizeOf5
  v5 := Tryz.zeroValue5
  t9 := Tryz.underlying9
  a9 := Tryz.isAgg9
  z9 := Tryz.sizeOf9
  v9 := Tryz.zeroValue9
  t21 := Tryz.underlying21
  a21 := Tryz.isAgg21
  z21 := Tryz.sizeOf21
  v21 := Tryz.zeroValue21
  t31 := Tryz.underlying100
  a31 := Tryz.isAgg100
  z31 := Tryz.sizeOf100
  v31 := Tryz.zeroValue100
  t46 := Tryz.underlying182
  a46 := Tryz.isAgg182
  z46 := Tryz.sizeOf182
  v46 := Tryz.zeroValue182
  t51 := Tryz.underlying208
  a51 := Tryz.isAgg208
  z51 := Tryz.sizeOf208
  v51 := Tryz.zeroValue208
  t105 := Tryz.underlying238
  a105 := Tryz.isAgg238
  z105 := Tryz.sizeOf238
  v105 := Tryz.zeroValue238
  t119 := Tryz.underlying260
  a119 := Tryz.isAgg260
  z119 := Tryz.sizeOf260
  t138 := Tryz.underlying262
  a138 := Tryz.isAgg262
  z138 := Tryz.sizeOf262
  v138 := Tryz.zeroValue262
  t139 := Tryz.underlying263
  a139 := Tryz.isAgg263
  z139 := Tryz.sizeOf263
  v139 := Tryz.zeroValue263
  t146 := Tryz.underlying264
  a146 := Tryz.isAgg264
  z146 := Tryz.sizeOf264
  v146 := Tryz.zeroValue264
  g1 := by kernel_rfl
  g3 := by kernel_rfl
  g4 := by kernel_rfl }
open Go.RowKit in
theorem Tryz.strings_Split (s sep : ByteArray) (m : Int) (w : World) (hs : s.size < 4294967281) (hm : w.cell? ⟨3, 0, none⟩ = some (.int .i64 m)) (h1 : 1 ≤ sep.size) :
    Calls Tryz.prog 138 #[.string s, .string sep] w fun e w' =>
      e = .returned (.slice (some ⟨w.heap.size, 0, none⟩) (Lib.countB s sep + 1) (Lib.countB s sep + 1)) ∧ w' = w.alloc (.cells ((Lib.splitB sep 0 (Lib.countB s sep) s).map Value.string).toArray 9) := Any.strings_Split Tryz.lays146 (by kernel_rfl) s sep m w hs hm h1
def Tryz.lays156_ren : Go.Shelf.Ren := ⟨fun | 156 => 135 | 165 => 174 | 166 => 175 | 169 => 176 | 240 => 201 | 241 => 202 | 276 => 224 | 277 => 225 | n => n, fun | 31 => 100 | 9 => 9 | 3 => 3 | 4 => 4 | 0 => 0 | 20 => 20 | 72 => 187 | 76 => 157 | 70 => 185 | 37 => 153 | 75 => 156 | 127 => 214 | 164 => 235 | 5 => 5 | 80 => 189 | n => n, fun | n => n⟩
theorem Tryz.lays156 : Go.Proofs.Lays.n156 Tryz.prog Tryz.lays156_ren := {
  mixed := by kernel_rfl
  f156 := Tryz.func135.trans (congrArg some (by kernel_rfl))
  f165 := Tryz.func174.trans (congrArg some (by kernel_rfl))
  f166 := Tryz.func175.trans (congrArg some (by kernel_rfl))
  f169 := Tryz.func176.trans (congrArg some (by kernel_rfl))
  f240 := Tryz.func201.trans (congrArg some (by kernel_rfl))
  f241 := Tryz.func202.trans (congrArg some (by kernel_rfl))
  f276 := Tryz.func224.trans (congrArg some (by kernel_rfl))
  f277 := Tryz.func225.trans (congrArg some (by kernel_rfl))
  t0 := Tryz.underlying0
  a0 := Tryz.isAgg0
  z0 := Tryz.sizeOf0
  v0 := Tryz.zeroValue0
  t3 := Tryz.underlying3
  a3 := Tryz.isAgg3
  z3 := Tryz.sizeOf3
  v3 := Tryz.zeroValue3
  t4 := Tryz.underlying4
  a4 := Tryz.isAgg4
  z4 := Tryz.sizeOf4
  v4 := Tryz.zeroValue4
  t9 := Tryz.underlying9
  a9 := Tryz.isAgg9
  z9 := Tryz.sizeOf9
  v9 := Tryz.zeroValue9
  t20 := Tryz.underlying20
  a20 := Tryz.isAgg20
  z20 := Tryz.sizeOf20
  v20 := Tryz.zeroValue20
  t31 := Tryz.underlying100
  a31 := Tryz.isAgg100
  z31 := Tryz.sizeOf100
  v31 := Tryz.zeroValue100
  t37 := Tryz.underlying153
  a37 := Tryz.isAgg153
  z37 := Tryz.sizeOf153
  v37 := Tryz.zeroValue153
  t70 := Tryz.underlying185
  a70 := Tryz.isAgg185
  z70 := Tryz.sizeOf185
  v70 := Tryz.zeroValue185
  t72 := Tryz.underlying187
  a72 := Tryz.isAgg187
  z72 := Tryz.sizeOf187
  v72 := Tryz.zeroValue187
  t75 := Tryz.underlying156
  a75 := Tryz.isAgg156
  z75 := Tryz.sizeOf156
  v75 := Tryz.zeroValue156
  t76 := Tryz.underlying157
  a76 := Tryz.isAgg157
  z76 := Tryz.sizeOf157
  v76 := Tryz.zeroValue157
  t127 := Tryz.underlying214
  a127 := Tryz.isAgg214
  z127 := Tryz.sizeOf214
  v127 := Tryz.zeroValue214
  t164 := Tryz.underlying235
  a164 := Tryz.isAgg235
  z164 := Tryz.sizeOf235
  v164 := Tryz.zeroValue235 }
theorem Tryz.Builder_Extra_156 : Builder.Extra Tryz.prog Tryz.lays156_ren := {
  sizeBuilder := by kernel_rfl
  liesBuilder := by kernel_rfl
  t5 := Tryz.underlying5
  a5 := Tryz.isAgg5
  z5 := Tryz.sizeOf5
  v5 := Tryz.zeroValue5
  infoByte := by kernel_rfl
  cellsByte := by kernel_rfl
  sizeByte := by kernel_rfl
  neB5 := by decide }
open Go.RowKit in
theorem Tryz.strings_Join (bk o c : Nat) (xs : List ByteArray) (sep : ByteArray) (w : World) (hcells : ∀ (j : Nat) x, xs[j]? = some x → w.cell? ⟨bk, o + j, none⟩ = some (.string x)) (hbk : bk < w.heap.size) (hN : xs.length ≤ 140737488355328) (hcap : xs.length ≤ c) (hlen : (Lib.join (xs.map (·.data.toList)) sep.data.toList).length ≤ 140737488355328) :
    Calls Tryz.prog 135 #[.slice (some ⟨bk, o, none⟩) xs.length c, .string sep] w fun e w' => e = .returned (.string ⟨(Lib.join (xs.map (·.data.toList)) sep.data.toList).toArray⟩) ∧ Below w.heap.size w w' := Any.strings_Join Tryz.lays156 Tryz.Builder_Extra_156 bk o c xs sep w hcells hbk hN hcap hlen
end Go.Proofs

/-
  Walks: numbers joined with blanks (award.join); what the library's variables hold.
-/
namespace Go.Proofs.YtmeomhojbobpbaaGreatDoor
open Go.RowKit Lg Go.Sort Go.Shelf

/-- What the library's variables hold. -/
structure Vs (w : World) : Prop where
  tab : Lib.TabIs Tryz.prog w "internal/strconv.uint64pow10" .u64 Lib.pow10Tab
  syn : ∃ ev, w.cell? ⟨0, 0, none⟩ = some ev ∧ (ev = .nilIface ∨ ∃ te pe, ev = .iface te pe)
  rng : ∃ ev, w.cell? ⟨1, 0, none⟩ = some ev ∧ (ev = .nilIface ∨ ∃ te pe, ev = .iface te pe)
  max : ∃ m, w.cell? ⟨3, 0, none⟩ = some (.int .i64 m)

theorem tab_named : Tryz.prog.globalNamed "internal/strconv.uint64pow10" = some 2 := by kernel_rfl

theorem Vs.below {w W : World} (h : Vs w) (hb : RowKit.Below w.heap.size w W) : Vs W := by
  have lt : ∀ {g : Nat} {v : Value}, w.cell? ⟨g, 0, none⟩ = some v → g < w.heap.size := fun hc => World.block_lt_of_cell? _ _ hc
  refine ⟨?_, ?_, ?_, ?_⟩
  · have hc := h.tab.cell tab_named 0 (by decide)
    exact var?_below hb tab_named (lt hc) h.tab
  · obtain ⟨ev, h1, h2⟩ := h.syn
    exact ⟨ev, (hb.cell (lt h1)).trans h1, h2⟩
  · obtain ⟨ev, h1, h2⟩ := h.rng
    exact ⟨ev, (hb.cell (lt h1)).trans h1, h2⟩
  · obtain ⟨m, h1⟩ := h.max
    exact ⟨m, (hb.cell (lt h1)).trans h1⟩

theorem below_grown_draws (w : World) (k : Nat) (os : Array Obj) : RowKit.Below w.heap.size w (grow (w.drewN k) os) := Go.Lib.below_grow _ w (Nat.le_refl _) k os

theorem itoa_any {w : World} (hV : Vs w) (n : Int) (h0 : 0 ≤ n) (h1 : n ≤ 9223372036854775807) : Calls Tryz.prog 134 #[.int .i64 n] w (Gives w (.string (ofL (nm n)))) := by
  refine (Tryz.strconv_Itoa n (by omega) h1 w hV.tab).mono ?_
  rintro e w' ⟨rfl, k, os, rfl⟩
  exact ⟨rfl, below_grown_draws w k os⟩

theorem joinB_len (xs : List Int) (h : ∀ x ∈ xs, 0 ≤ x ∧ x < 1000000000000) : (lineL (xs.map nm)).length ≤ 13 * xs.length := by
  cases xs with
  | nil => simp [lineL]
  | cons x r =>
    rw [List.map_cons, lineL_cons, ← numsL_tail, List.length_append]
    have := nm_len (h x (by simp)).1 (h x (by simp)).2
    have := numsL_len r (fun y hy => h y (by simp [hy]))
    simp; omega

end Go.Proofs.YtmeomhojbobpbaaGreatDoor

/-
  Plain functions: the stable sort of the library as it goes, over an array of numbers of places.
-/
namespace Lg
open Go

def ltC (cf : Nat → Nat → Int) (x y : Nat) : Bool := decide (cf x y < 0)

/-- The first n exchanges of two ranges. -/
def swapRange (d : Array Nat) (a b : Nat) : Nat → Array Nat
  | 0 => d
  | n + 1 => Sort.swp (swapRange d a b n) (a + n) (b + n)

def rotL (m : Nat) (i j : Nat) (d : Array Nat) : Array Nat :=
  if i = j then swapRange d (m - i) m i
  else if j < i then (if _h : 0 < j then rotL m (i - j) j (swapRange d (m - i) m j) else d)
  else (if _h : 0 < i then rotL m i (j - i) (swapRange d (m - i) (m + j - i) i) else d)
termination_by i + j

def rotate (d : Array Nat) (a m b : Nat) : Array Nat := rotL m (m - a) (b - m) d

/-- A binary search: where it ends. -/
def bsc (p : Nat → Bool) (i j : Nat) : Nat :=
  if i < j then (if p ((i + j) / 2) then bsc p ((i + j) / 2 + 1) j else bsc p i ((i + j) / 2)) else i
termination_by j - i
decreasing_by all_goals omega

def shUp (d : Array Nat) (a : Nat) : Nat → Array Nat
  | 0 => d
  | n + 1 => Sort.swp (shUp d a n) (a + n) (a + n + 1)

def shDn (d : Array Nat) (m : Nat) : Nat → Array Nat
  | 0 => d
  | n + 1 => Sort.swp (shDn d m n) (m - n) (m - n - 1)

def symStart (lt : Nat → Nat → Bool) (a m b : Nat) (d : Array Nat) : Nat :=
  bsc (fun c => !lt d[(a + b) / 2 + m - 1 - c]! d[c]!) (if (a + b) / 2 < m then (a + b) / 2 + m - b else a) (if (a + b) / 2 < m then (a + b) / 2 else m)

def symM (lt : Nat → Nat → Bool) : Nat → Nat → Nat → Nat → Array Nat → Array Nat
  | 0, _, _, _, d => d
  | f + 1, a, m, b, d =>
    if m - a = 1 then shUp d a (bsc (fun h => lt d[h]! d[a]!) m b - 1 - a)
    else if b - m = 1 then shDn d m (m - bsc (fun h => !lt d[m]! d[h]!) a m)
    else
      let s := symStart lt a m b d
      let e := (a + b) / 2 + m - s
      let d1 := if s < m ∧ m < e then rotate d s m e else d
      let d2 := if a < s ∧ s < (a + b) / 2 then symM lt f a s ((a + b) / 2) d1 else d1
      if (a + b) / 2 < e ∧ e < b then symM lt f ((a + b) / 2) e b d2 else d2

def stA (lt : Nat → Nat → Bool) (n : Nat) : Nat → Nat → Array Nat → Array Nat
  | 0, a, d => Sort.insertionSort lt d a n
  | f + 1, a, d => if a + 20 ≤ n then stA lt n f (a + 20) (Sort.insertionSort lt d a (a + 20)) else Sort.insertionSort lt d a n

def stMg (lt : Nat → Nat → Bool) (n bs : Nat) : Nat → Nat → Array Nat → Array Nat
  | 0, _, d => d
  | f + 1, a, d => if a + 2 * bs ≤ n then stMg lt n bs f (a + 2 * bs) (symM lt n a (a + bs) (a + 2 * bs) d) else if a + bs < n then symM lt n a (a + bs) n d else d

def stO (lt : Nat → Nat → Bool) (n : Nat) : Nat → Nat → Array Nat → Array Nat
  | 0, _, d => d
  | f + 1, bs, d => if bs < n then stO lt n f (2 * bs) (stMg lt n bs n 0 d) else d

def stableS (lt : Nat → Nat → Bool) (d : Array Nat) : Array Nat := stO lt d.size d.size 20 (stA lt d.size d.size 0 d)

theorem swapRange_size (d : Array Nat) (a b n : Nat) : (swapRange d a b n).size = d.size := by
  induction n with
  | zero => rfl
  | succ n ih => rw [swapRange]; simp [Sort.swp, ih]

theorem rotL_size (m i j : Nat) (d : Array Nat) : (rotL m i j d).size = d.size := by
  fun_induction rotL m i j d with
  | case1 => rw [swapRange_size]
  | case2 _ _ _ _ _ _ ih => rw [ih, swapRange_size]
  | case3 => rfl
  | case4 _ _ _ _ _ _ ih => rw [ih, swapRange_size]
  | case5 => rfl

theorem shUp_size (d : Array Nat) (a n : Nat) : (shUp d a n).size = d.size := by
  induction n with
  | zero => rfl
  | succ n ih => rw [shUp]; simp [Sort.swp, ih]

theorem shDn_size (d : Array Nat) (a n : Nat) : (shDn d a n).size = d.size := by
  induction n with
  | zero => rfl
  | succ n ih => rw [shDn]; simp [Sort.swp, ih]

theorem bsc_bd (p : Nat → Bool) (i j : Nat) (h : i ≤ j) : i ≤ bsc p i j ∧ bsc p i j ≤ j := by
  fun_induction bsc p i j with
  | case1 i j h1 h2 ih => have := ih (by omega); omega
  | case2 i j h1 h2 ih => have := ih (by omega); omega
  | case3 i j h1 => omega

section
open Go.Sort
theorem insInner_size (lt : Nat → Nat → Bool) (a j : Nat) (d : Array Nat) : (insInner lt a j d).size = d.size := by
  induction j generalizing d with
  | zero => rfl
  | succ j ih => rw [insInner]; split <;> simp [ih, swp]
theorem insOuter_size (lt : Nat → Nat → Bool) (a b i : Nat) (d : Array Nat) : (insOuter lt a b i d).size = d.size := by
  fun_induction insOuter lt a b i d with
  | case1 i d h ih => rw [ih, insInner_size]
  | case2 => rfl

theorem rotate_size (d : Array Nat) (a m b : Nat) : (rotate d a m b).size = d.size := rotL_size _ _ _ _
theorem symM_size (lt : Nat → Nat → Bool) (f a m b : Nat) (d : Array Nat) : (symM lt f a m b d).size = d.size := by
  induction f generalizing a m b d with
  | zero => rfl
  | succ f ih =>
    rw [symM]
    split
    · exact shUp_size _ _ _
    · split
      · exact shDn_size _ _ _
      · dsimp only
        have h1 : (if symStart lt a m b d < m ∧ m < (a + b) / 2 + m - symStart lt a m b d then rotate d (symStart lt a m b d) m ((a + b) / 2 + m - symStart lt a m b d) else d).size = d.size := by
          split
          · exact rotate_size _ _ _ _
          · rfl
        split <;> split <;> simp only [ih, h1]

theorem insertionSort_size (lt : Nat → Nat → Bool) (d : Array Nat) (a b : Nat) : (insertionSort lt d a b).size = d.size := insOuter_size _ _ _ _ _

theorem stA_size (lt : Nat → Nat → Bool) (n f a : Nat) (d : Array Nat) : (stA lt n f a d).size = d.size := by
  induction f generalizing a d with
  | zero => exact insertionSort_size _ _ _ _
  | succ f ih =>
    rw [stA]
    split
    · rw [ih, insertionSort_size]
    · exact insertionSort_size _ _ _ _
theorem stM_size (lt : Nat → Nat → Bool) (n bs f a : Nat) (d : Array Nat) : (stMg lt n bs f a d).size = d.size := by
  induction f generalizing a d with
  | zero => rfl
  | succ f ih =>
    rw [stMg]
    split
    · rw [ih, symM_size]
    · split
      · exact symM_size _ _ _ _ _ _
      · rfl
theorem stO_size (lt : Nat → Nat → Bool) (n f bs : Nat) (d : Array Nat) : (stO lt n f bs d).size = d.size := by
  induction f generalizing bs d with
  | zero => rfl
  | succ f ih =>
    rw [stO]
    split
    · rw [ih, stM_size]
    · rfl
theorem stableS_size (lt : Nat → Nat → Bool) (d : Array Nat) : (stableS lt d).size = d.size := by
  unfold stableS; rw [stO_size, stA_size]

end

end Lg
