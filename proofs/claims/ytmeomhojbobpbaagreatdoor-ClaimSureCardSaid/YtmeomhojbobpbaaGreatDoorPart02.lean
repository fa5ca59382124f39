import Derived.Test.YtmeomhojbobpbaaGreatDoorPart01
import Derived.Lib.SlicesCompact
import Derived.Lib.RowBridge
import Derived.Test.YtmeomhojbobpbaaGreatDoorProg
import Derived.WalkKit
import Derived.WalkSpells
import Derived.WalkLawsBesides
import Derived.Lib.QuietBelow
import Derived.Lib.Hide
import Derived.Deep.MidRow
import Derived.RangeFuncNested
import Derived.RangeFuncBox
import Derived.OwnWalkIn
import Derived.Lib.ItoaMem
import Derived.Lib.SplitLaws
import Derived.Lib.AtoiTie
import Derived.Lib.Join
import Derived.Laws.IdiomStrings
import Derived.Laws.Concat
import Derived.BigQuiet
import Derived.Recover
/-
  Plain functions of the award and their plain laws, as the walks use them.
-/
namespace Lg
open Go

theorem gcd_step (x y : Int) : Int.gcd y (x.tmod y) = Int.gcd x y := by
  simp only [Int.gcd, Int.natAbs_tmod]
  rw [Nat.gcd_comm x.natAbs, Nat.gcd_rec y.natAbs x.natAbs, Nat.gcd_comm]

theorem tmod_bd (x y M : Int) (hx : -M ≤ x ∧ x ≤ M) : -M ≤ x.tmod y ∧ x.tmod y ≤ M := by
  have h1 : (x.tmod y).natAbs ≤ x.natAbs := by rw [Int.natAbs_tmod]; exact Nat.mod_le _ _
  omega

theorem tmod_lt (x y : Int) (hy : y ≠ 0) : (x.tmod y).natAbs < y.natAbs := by
  rw [Int.natAbs_tmod]; exact Nat.mod_lt _ (by omega)

theorem tdiv_bd (x d M : Int) (hx : -M ≤ x ∧ x ≤ M) : -M ≤ x.tdiv d ∧ x.tdiv d ≤ M := by
  have h1 : (x.tdiv d).natAbs ≤ x.natAbs := by rw [Int.natAbs_tdiv]; exact Nat.div_le_self _ _
  omega

theorem chkFrom_ok {α : Type} (f : List α → α → Int) (pre l : List α) (h : (chkFrom f pre l).2 = 0) : ∀ i x, l[i]? = some x → f (pre ++ l.take i) x = 0 := by
  induction l generalizing pre with
  | nil => intro i x hx; simp at hx
  | cons y ys ih =>
    intro i x hx
    rw [chkFrom] at h
    by_cases h0 : f pre y = 0
    · rw [if_pos h0] at h
      cases i with
      | zero => simp at hx; subst hx; simpa using h0
      | succ i =>
        have := ih _ h i x (by simpa using hx)
        simpa using this
    · rw [if_neg h0] at h; exact absurd h h0

def validF (f : Frac) : Bool := inn f.den 1 1000000 && inn f.num (-1000000000000) 1000000000000 && decide (Int.gcd f.num f.den = 1)

/-- A fraction's numbers are in range. -/
def frOk (f : Frac) : Prop := -1000000000000 ≤ f.num ∧ f.num ≤ 1000000000000 ∧ 1 ≤ f.den ∧ f.den ≤ 1000000

theorem mul_bound {x y : Int} (h1 : -1000000000000 ≤ x) (h2 : x ≤ 1000000000000) (h3 : 1 ≤ y) (h4 : y ≤ 1000000) : -1000000000000000000 ≤ x * y ∧ x * y ≤ 1000000000000000000 := by
  constructor
  · calc (-1000000000000000000 : Int) ≤ -1000000000000 * y := by omega
      _ ≤ x * y := Int.mul_le_mul_of_nonneg_right h1 (by omega)
  · calc x * y ≤ 1000000000000 * y := Int.mul_le_mul_of_nonneg_right h2 (by omega)
      _ ≤ 1000000000000000000 := by omega

def sumStep (acc f : Frac) : Frac := normN (acc.num * f.den + f.num * acc.den) (acc.den * f.den)

def sumFr (l : List Frac) : Frac := l.foldl sumStep ⟨0, 1⟩

/-- No step of the sum is out of range. -/
def sumsOk (l : List Frac) : Prop := ∀ k f, l[k]? = some f → frOk f ∧ frOk (sumFr (l.take k)) ∧ normOk ((sumFr (l.take k)).num * f.den + f.num * (sumFr (l.take k)).den) ((sumFr (l.take k)).den * f.den) = true

end Lg

/-
  How the plain data of the specification lie in Go's memory; small laws for the walks.
-/
namespace Go.Proofs.YtmeomhojbobpbaaGreatDoor
open Go.RowKit Lg

/-! ### Values -/
abbrev vi (n : Int) : Value := .int .i64 n
abbrev cF (x : Frac) : List Value := [.int .i64 x.num, .int .i64 x.den]
abbrev cR (x : Rate) : List Value := [.int .i64 x.id, .int .i64 x.known, .int .i64 x.from_, .string x.goods, .int .i64 x.finder.num, .int .i64 x.finder.den, .int .i64 x.cart, .int .i64 x.store, .int .i64 x.of_]
abbrev cS (x : Sale) : List Value := [.int .i64 x.id, .int .i64 x.known, .int .i64 x.hour, .int .i64 x.parcel, .int .i64 x.price, .int .i64 x.carter, .int .i64 x.keeper, .int .i64 x.since, .int .i64 x.of_]
abbrev cT (x : Title) : List Value := [.int .i64 x.party, .int .i64 x.share.num, .int .i64 x.share.den]
abbrev cH (x : Head) : List Value := [.int .i64 x.id, .int .i64 x.known, .int .i64 x.of_]

abbrev cI (x : Int) : List Value := [.int .i64 x]
abbrev cB (x : UInt8) : List Value := [.int .u8 x.toNat]

abbrev aF (x : Frac) : Value := .agg #[.int .i64 x.num, .int .i64 x.den]
abbrev aT (x : Title) : Value := .agg #[.int .i64 x.party, .int .i64 x.share.num, .int .i64 x.share.den]
/-! ### What a call does -/
/-- It returns v; nothing that lay has turned. -/
def Gives (w : World) (v : Value) (e : Ending) (w' : World) : Prop := e = .returned v ∧ Below w.heap.size w w'

/-- A list in memory: the slice's value, its elements of k cells each. -/
structure Lst {α : Type} (w : World) (k : Nat) (enc : α → List Value) (a : Option Addr) (n cap : Nat) (xs : List α) : Prop where
  len : xs.length = n
  le : n ≤ cap
  max : cap ≤ maxLen
  at_ : ∀ i x, xs[i]? = some x → ∃ b off, a = some ⟨b, off, none⟩ ∧ b < w.heap.size ∧ w.rangeAt b (off + i * k) (enc x)

theorem rangeAt_below {B : Nat} {w w' : World} (h : Below B w w') {b o : Nat} {cs : List Value} (hb : b < B) (hr : w.rangeAt b o cs) : w'.rangeAt b o cs :=
  fun j v hv => (h.cell (p := ⟨b, o + j, none⟩) hb).trans (hr j v hv)

theorem Lst.below {α : Type} {w w' : World} {k : Nat} {enc : α → List Value} {a : Option Addr} {n cap : Nat} {xs : List α} (h : Lst w k enc a n cap xs) (hb : Below w.heap.size w w') : Lst w' k enc a n cap xs :=
  ⟨h.len, h.le, h.max, fun i x hx => by
    obtain ⟨b, off, ha, hlt, hr⟩ := h.at_ i x hx
    exact ⟨b, off, ha, Nat.lt_of_lt_of_le hlt hb.size, rangeAt_below hb hlt hr⟩⟩

theorem Lst.nil {α : Type} (w : World) (k : Nat) (enc : α → List Value) : Lst w k enc none 0 0 ([] : List α) :=
  ⟨rfl, Nat.le_refl _, Nat.zero_le _, fun i x hx => by simp at hx⟩

theorem cell_allocs {w : World} {a : Addr} {v : Value} (h : w.cell? a = some v) : ∀ o, (w.alloc o).cell? a = some v := fun o => by
  rw [World.cell?_alloc_lt _ _ _ (block_lt_of_cell h)]; exact h

theorem toList_beq (a b : ByteArray) : (a.toList == b.toList) = decide (a = b) := by
  rw [Bool.eq_iff_iff]
  simp only [beq_iff_eq, decide_eq_true_eq]
  constructor
  · intro h
    rw [ByteArray.toList_eq, ByteArray.toList_eq] at h
    exact ByteArray.ext (Array.toList_inj.1 h)
  · rintro rfl; rfl

theorem ret_bool {a b : Bool} (h : a = b) : Ending.returned (.bool a) = .returned (.bool b) := by rw [h]
theorem ret_int {k : IntKind} {a b : Int} (h : a = b) : Ending.returned (.int k a) = .returned (.int k b) := by rw [h]

end Go.Proofs.YtmeomhojbobpbaaGreatDoor

/-
  Blocks of cells that are known whole: what stays of them, what a store makes of them.
-/
namespace Go.Proofs.YtmeomhojbobpbaaGreatDoor
open Go.RowKit Lg

/-- Block B is the cells cs, of type t, none of them frozen. -/
def Blk (W : World) (B : Nat) (cs : Array Value) (t : TypeId) : Prop := W.heap[B]? = some (.cells cs t (0, 0))

theorem Blk.lt {W : World} {B : Nat} {cs : Array Value} {t : TypeId} (h : Blk W B cs t) : B < W.heap.size := (Array.getElem?_eq_some_iff.1 h).1
theorem Blk.new (W : World) (t : TypeId) (cs : Array Value) : Blk (W.alloc (.cells cs t)) W.heap.size cs t := World.alloc_heap_new W _
theorem Blk.kept {W W' : World} {row : Option Nat} {B : Nat} {t : TypeId} {cs : Array Value} (h : Blk W B cs t) (hg : W.grownBy W' row) (hne : some B ≠ row) : Blk W' B cs t := (hg.block B h.lt hne).trans h
theorem Blk.alloc {W : World} {B : Nat} {t : TypeId} {cs : Array Value} (h : Blk W B cs t) (o : Obj) : Blk (W.alloc o) B cs t := h.kept (World.grownBy_alloc W o none) (by simp)
theorem Blk.below {W W' : World} {n B : Nat} {t : TypeId} {cs : Array Value} (h : Blk W B cs t) (hb : Below n W W') (hn : B < n) : Blk W' B cs t := (hb.block B hn).trans h
theorem Blk.below' {W W' : World} {B : Nat} {t : TypeId} {cs : Array Value} (h : Blk W B cs t) (hb : Below W.heap.size W W') : Blk W' B cs t := h.below hb h.lt
theorem Blk.cell {W : World} {B : Nat} {t : TypeId} {cs : Array Value} (h : Blk W B cs t) (j : Nat) : W.cell? ⟨B, j, none⟩ = cs[j]? := by simp [World.cell?, show W.heap[B]? = _ from h]
theorem Blk.frozen {W : World} {B : Nat} {t : TypeId} {cs : Array Value} (h : Blk W B cs t) (j : Nat) : W.frozen? ⟨B, j, none⟩ = false := by simp [World.frozen?, show W.heap[B]? = _ from h]
theorem Blk.drew {W : World} {B : Nat} {t : TypeId} {cs : Array Value} (h : Blk W B cs t) : Blk W.drew B cs t := h
theorem Blk.range {W : World} {B : Nat} {t : TypeId} {cs : Array Value} (h : Blk W B cs t) (o : Nat) (vs : List Value) (hv : ∀ j v, vs[j]? = some v → cs[o + j]? = some v) : W.rangeAt B o vs :=
  fun j v hj => by rw [h.cell]; exact hv j v hj
theorem Blk.there {W : World} {B : Nat} {t : TypeId} {cs : Array Value} (h : Blk W B cs t) (o n : Nat) (hn : o + n ≤ cs.size) : W.there B o n :=
  fun j hj => ⟨by rw [h.cell, Array.getElem?_eq_getElem (by omega)]; rfl, h.frozen _⟩
theorem Blk.other {W : World} {B C : Nat} {t u : TypeId} {cs ds : Array Value} (h : Blk W B cs t) (k : Blk W C ds u) (htu : t ≠ u) : B ≠ C := fun e => by
  subst e
  have := (show W.heap[B]? = _ from h).symm.trans k
  simp at this
  exact htu this.2

/-- The cells behind a store of many. -/
def setAll (cs : Array Value) : Nat → List Value → Array Value
  | _, [] => cs
  | o, v :: r => setAll (cs.setIfInBounds o v) (o + 1) r

theorem Blk.setCell {W : World} {B : Nat} {t : TypeId} {cs : Array Value} (h : Blk W B cs t) (o : Nat) (v : Value) : Blk (W.setCell ⟨B, o, none⟩ v) B (cs.setIfInBounds o v) t := by
  obtain ⟨hlt, hk⟩ := Array.getElem?_eq_some_iff.1 h
  show (W.heap.modify B _)[B]? = _
  rw [Array.getElem?_eq_getElem (by rw [Array.size_modify]; exact hlt), Array.getElem_modify_self, hk]
  rfl
theorem Blk.setCells {W : World} {B : Nat} {t : TypeId} {cs : Array Value} (h : Blk W B cs t) (o : Nat) (vs : List Value) : Blk (W.setCells B o vs) B (setAll cs o vs) t := by
  induction vs generalizing W cs o with
  | nil => exact h
  | cons v r ih => exact ih (h.setCell o v) (o + 1)
theorem Blk.setCell_other {W : World} {B C : Nat} {t : TypeId} {cs : Array Value} (h : Blk W B cs t) (hne : B ≠ C) (o : Nat) (v : Value) : Blk (W.setCell ⟨C, o, none⟩ v) B cs t :=
  (Below.heap_setCell W ⟨C, o, none⟩ v B hne).trans h
theorem setCells_heap (W : World) (C o : Nat) (vs : List Value) (k : Nat) (hne : k ≠ C) : (W.setCells C o vs).heap[k]? = W.heap[k]? := by
  induction vs generalizing W o with
  | nil => rfl
  | cons v r ih => exact (ih _ _).trans (Below.heap_setCell W ⟨C, o, none⟩ v k hne)
theorem Blk.setCells_other {W : World} {B C : Nat} {t : TypeId} {cs : Array Value} (h : Blk W B cs t) (hne : B ≠ C) (o : Nat) (vs : List Value) : Blk (W.setCells C o vs) B cs t :=
  (setCells_heap W C o vs B hne).trans h

theorem below_setCells {n : Nat} {A W : World} (h : Below n A W) {B : Nat} (hB : n ≤ B) (o : Nat) (vs : List Value) : Below n A (W.setCells B o vs) := by
  induction vs generalizing W o with
  | nil => exact h
  | cons v r ih => exact ih (h.setCell (p := ⟨B, o, none⟩) hB v) _
/-- What is said of a block of cells is the caller's own. -/
theorem Blk.own {B n : Nat} {t : TypeId} {cs : Array Value} {W W' : World} {row : Option Nat} (h : Blk W B cs t) (hg : W.grownBy W' row)
    (hr : ∀ r, row = some r → n ≤ r ∧ ∃ o : Obj, W.heap[r]? = some o ∧ o.isCells = false) : Blk W' B cs t :=
  h.kept hg fun e => by
    obtain ⟨_, o, ho, hc⟩ := hr B e.symm
    rw [show W.heap[B]? = _ from h] at ho; cases ho; cases hc

theorem run_loadVar_blk {P : Program} (w : World) (g : Nat) (T ty : TypeId) (cs : List Value) (d : TypeDesc) (hg : Blk w g cs.toArray T) (hu : P.underlying ty = some d) (hd : d.isRow = true) (hi : (P.info? ty).map (·.size) = some cs.length) :
    (loadVar ty ⟨g, 0, none⟩).run P w = .ok (.agg cs.toArray) w :=
  run_loadVar_mid w g 0 ty cs d (hg.range 0 cs (fun j v h => by simpa using h)) hu hd hi

/-- A result in a cell, and one in a slot. -/
theorem results_cell_tmp {P : Program} {fn : Func} {p t : Tmp} {ty : TypeId} (h : fn.results = #[.cell p ty, .tmp t]) (tmps : Array Value) (w : World) (g : Nat) (T : TypeId) (cs : List Value) (d : TypeDesc)
    (hp : tmps.getD p undef = .pointer (some ⟨g, 0, none⟩)) (hg : Blk w g cs.toArray T) (hu : P.underlying ty = some d) (hd : d.isRow = true) (hi : (P.info? ty).map (·.size) = some cs.length) :
    (results fn tmps).run P w = .ok (.tuple #[.agg cs.toArray, tmps.getD t undef]) w := by
  have hp' : tmps[p]?.getD undef = .pointer (some ⟨g, 0, none⟩) := by simpa using hp
  simp [results, h, hp', asAddr, run_loadVar_blk w g T ty cs d hg hu hd hi]

theorem wpListIn_load_mid {F : Fence} {n : Nat} {P : Program} {ops : Array Oper} {rest : List Oper} {op : Oper} {a : Act} {w : World} {Q : Exit → Act → World → Prop} (hgd : op.guard = none) (ty : TypeId) (x : Operand) (ho : op.op = .load ty x)
    (b o : Nat) (hx : a.eval x = .pointer (some ⟨b, o, none⟩)) (cs : List Value) (d : TypeDesc) (hc : w.rangeAt b o cs)
    (hu : P.underlying ty = some d) (hd : d.isRow = true) (hi : (P.info? ty).map (·.size) = some cs.length)
    (h : wpListIn F n P ops Q rest (a.put op.dst (.agg cs.toArray)) w) : wpListIn F n P ops Q (op :: rest) a w := by
  refine wpListIn_plain hgd fun K' hK' => ?_
  unfold Oper.wpIn
  refine ⟨by simp [Oper.about, ho], ?_⟩
  rw [Oper.semAt_plain F _ _ (by rw [ho]; intro c hc'; cases hc')]
  unfold execOp
  simp only [ho, hx, Instr.loadAt, Instr.sureAddr, Sem.run_bind, Sem.run_pure, Result.andThen_ok, run_loadVar_mid w b o ty cs d hc hu hd hi]
  exact hK' _ _ h

theorem wpListIn_store_mid {F : Fence} {n : Nat} {P : Program} {ops : Array Oper} {rest : List Oper} {op : Oper} {a : Act} {w : World} {Q : Exit → Act → World → Prop} (hgd : op.guard = none) (ty : TypeId) (x y : Operand) (ho : op.op = .store ty x y)
    (b o : Nat) (cells : Array Value) (hx : a.eval x = .pointer (some ⟨b, o, none⟩)) (hy : a.eval y = .agg cells)
    (ht : w.there b o cells.size) (hi : (P.info? ty).map (·.size) = some cells.size) (h1 : cells.all (·.oneCell') = true)
    (h : wpListIn F n P ops Q rest (a.put op.dst undef) (w.setCells b o cells.toList)) : wpListIn F n P ops Q (op :: rest) a w := by
  refine wpListIn_plain hgd fun K' hK' => ?_
  unfold Oper.wpIn
  refine ⟨by simp [Oper.about, ho], ?_⟩
  rw [Oper.semAt_plain F _ _ (by rw [ho]; intro c hc'; cases hc')]
  unfold execOp
  simp only [ho, hx, hy, Instr.storeAt, Instr.sureAddr, Sem.run_bind, Sem.run_pure, Result.andThen_ok, run_storeVar_mid w b o ty cells ht hi h1]
  exact hK' _ _ h

end Go.Proofs.YtmeomhojbobpbaaGreatDoor

/-
  Plain: the lines of records: words, numerals, cutting and reading; no program in sight.
-/
namespace Lg

abbrev Bs := List UInt8

/-- A text cut at each blank. -/
def cutL : Bs → List Bs
  | [] => [[]]
  | c :: r => if c = 32 then [] :: cutL r else (match cutL r with | [] => [[c]] | h :: t => (c :: h) :: t)

theorem cutL_word {x : Bs} (h : ∀ c ∈ x, c ≠ 32) : cutL x = [x] := by
  induction x with
  | nil => rfl
  | cons c r ih =>
    rw [cutL, if_neg (h c (by simp)), ih (fun d hd => h d (by simp [hd]))]

theorem cutL_step {x : Bs} (h : ∀ c ∈ x, c ≠ 32) (r : Bs) : cutL (x ++ 32 :: r) = x :: cutL r := by
  induction x with
  | nil => simp [cutL]
  | cons c t ih =>
    rw [List.cons_append, cutL, if_neg (h c (by simp)), ih (fun d hd => h d (by simp [hd]))]

/-- Words with blanks between them. -/
def lineL : List Bs → Bs
  | [] => []
  | [x] => x
  | x :: y :: r => x ++ 32 :: lineL (y :: r)

theorem cutL_line : ∀ (ws : List Bs), ws ≠ [] → (∀ w ∈ ws, ∀ c ∈ w, c ≠ 32) → cutL (lineL ws) = ws
  | [], h, _ => absurd rfl h
  | [x], _, h => cutL_word (h x (by simp))
  | x :: y :: r, _, h => by
    rw [lineL, cutL_step (h x (by simp)), cutL_line (y :: r) (by simp) (fun w hw => h w (by simp [hw]))]

theorem lineL_join (ws : List Bs) : Go.Lib.join ws [32] = lineL ws := by
  induction ws with
  | nil => rfl
  | cons x r ih =>
    cases r with
    | nil => rw [Go.Lib.join_one]; rfl
    | cons y r =>
      rw [Go.Lib.join_cons, lineL, ← ih, Go.Lib.join_cons]
      simp [Go.Lib.joinTail]

/-- The library's cutting at blanks. -/
theorem splitK_cut : ∀ (s : Bs), Go.Lib.splitK [32] 0 (Go.Lib.count s [32]) s = cutL s
  | [] => by simp [Go.Lib.count, Go.Lib.countFrom, Go.Lib.index, Go.Lib.splitK, cutL]
  | c :: r => by
    have ih := splitK_cut r
    by_cases h : c = 32
    · subst h
      rw [Go.Lib.count_cons_eq, Nat.add_comm, Go.Lib.splitK]
      have hi : Go.Lib.index (32 :: r) [32] = 0 := by simp [Go.Lib.index, List.isPrefixOf]
      rw [hi, cutL, if_pos rfl]
      simp [ih]
    · have hp : List.isPrefixOf [32] (c :: r) = false := by simp [List.isPrefixOf]; exact fun e => h e.symm
      rw [Go.Lib.count_cons_ne c 32 r h, cutL, if_neg h, ← ih]
      cases hk : Go.Lib.count r [32] with
      | zero => rfl
      | succ k =>
        rw [Go.Lib.splitK, Go.Lib.splitK, Go.Lib.index, hp]
        have hg := Go.Lib.index_ge r [32]
        by_cases hi : Go.Lib.index r [32] = -1
        · simp [hi]
        · have b1 : (Go.Lib.index r [32] == -1) = false := by simpa using hi
          have b2 : (Go.Lib.index r [32] + 1 == -1) = false := by simp; omega
          have e : (Go.Lib.index r [32] + 1).toNat = (Go.Lib.index r [32]).toNat + 1 := by omega
          simp [b1, b2, e]

theorem cutL_len (s : Bs) : (cutL s).length = Go.Lib.count s [32] + 1 := by
  rw [← splitK_cut s]
  have h := Go.Lib.splitB_all ⟨#[32]⟩ (by decide) 0 (Go.Lib.countB ⟨s.toArray⟩ ⟨#[32]⟩) ⟨s.toArray⟩ rfl
  have h2 := Go.Lib.splitB_data ⟨#[32]⟩ 0 (Go.Lib.countB ⟨s.toArray⟩ ⟨#[32]⟩) ⟨s.toArray⟩
  have e : Go.Lib.countB ⟨s.toArray⟩ ⟨#[32]⟩ = Go.Lib.count s [32] := by simp [Go.Lib.countB]
  rw [e] at h h2
  have h3 := congrArg List.length h2
  rw [List.length_map, h] at h3
  simpa using h3.symm

theorem cutL_size : ∀ (s : Bs), ∀ w ∈ cutL s, w.length ≤ s.length
  | [], w, h => by simp [cutL] at h; subst h; simp
  | c :: r, w, h => by
    have ih := cutL_size r
    unfold cutL at h
    split at h
    · simp only [List.mem_cons] at h
      rcases h with rfl | h
      · simp
      · have := ih w h; simp; omega
    · split at h
      · simp only [List.mem_cons, List.not_mem_nil, or_false] at h; subst h; simp
      · rename_i h1 t1 he
        simp only [List.mem_cons] at h
        rcases h with rfl | h
        · have := ih h1 (by rw [he]; simp); simp; omega
        · have := ih w (by rw [he]; simp [h]); simp; omega

/-! Numerals. -/

theorem dec_byte (u : Nat) : ∀ c ∈ Go.Lib.decDigits u, 48 ≤ c.toNat ∧ c.toNat ≤ 57 := by
  induction u using Nat.strongRecOn with
  | _ u ih =>
    intro c hc
    rw [Go.Lib.decDigits] at hc
    split at hc
    · simp only [List.mem_singleton] at hc
      subst hc
      simp only [UInt8.toNat_ofNat']
      omega
    · simp only [List.mem_append, List.mem_singleton] at hc
      rcases hc with hc | rfl
      · exact ih (u / 10) (by omega) c hc
      · simp only [UInt8.toNat_ofNat']
        omega

theorem decFrom_append (l : Bs) : ∀ (acc : Nat) (b : UInt8), Go.Lib.decFrom acc (l ++ [b]) = (Go.Lib.decFrom acc l).bind fun n => (Go.Lib.digitVal b).map fun d => n * 10 + d := by
  induction l with
  | nil => intro acc b; simp only [List.nil_append, Go.Lib.decFrom]; cases Go.Lib.digitVal b <;> rfl
  | cons a t ih =>
    intro acc b
    simp only [List.cons_append, Go.Lib.decFrom]
    cases Go.Lib.digitVal a with
    | none => rfl
    | some d => exact ih _ b

theorem digitVal_of {d : Nat} (h : d < 10) : Go.Lib.digitVal (UInt8.ofNat (48 + d)) = some d := by
  unfold Go.Lib.digitVal
  have e : (UInt8.ofNat (48 + d)).toNat = 48 + d := by simp only [UInt8.toNat_ofNat']; omega
  rw [e, if_pos (by omega)]
  congr 1; omega

theorem decFrom_dec (u : Nat) : Go.Lib.decFrom 0 (Go.Lib.decDigits u) = some u := by
  induction u using Nat.strongRecOn with
  | _ u ih =>
    rw [Go.Lib.decDigits]
    split
    · rename_i h
      have := decFrom_append [] 0 (UInt8.ofNat (48 + u))
      rw [List.nil_append] at this
      rw [this, digitVal_of h]
      simp [Go.Lib.decFrom]
    · rename_i h
      rw [decFrom_append, ih (u / 10) (by omega), digitVal_of (by omega)]
      simp
      omega

theorem dec_ne (u : Nat) : Go.Lib.decDigits u ≠ [] := by
  intro h
  have := Go.Lib.decDigits_length u
  rw [h] at this
  have := Go.Lib.nDigits_pos u
  simp at *
  omega

theorem decNat_dec (u : Nat) : Go.Lib.decNat (Go.Lib.decDigits u) = some u := by
  unfold Go.Lib.decNat
  have := dec_ne u
  rw [if_neg (by simpa using this)]
  exact decFrom_dec u

theorem nDigits_le {u k : Nat} (h : u < 10 ^ k) (hk : 1 ≤ k) : Go.Lib.nDigits u ≤ k := by
  induction k generalizing u with
  | zero => omega
  | succ k ih =>
    by_cases hu : u < 10
    · rw [Go.Lib.nDigits_small hu]; omega
    · rw [Go.Lib.nDigits_big hu]
      rw [Nat.pow_succ] at h
      have hk1 : 1 ≤ k := by
        rcases Nat.eq_zero_or_pos k with e | e
        · subst e; simp at h; omega
        · exact e
      have := ih (u := u / 10) (by omega) hk1
      omega

/-- The numeral of a number. -/
abbrev nm (n : Int) : Bs := Go.Lib.itoa n

theorem nm_nat {n : Int} (h : 0 ≤ n) : nm n = Go.Lib.decDigits n.toNat := by
  obtain ⟨u, rfl⟩ : ∃ u : Nat, n = (u : Int) := ⟨n.toNat, by omega⟩
  rw [nm, Go.Lib.itoa_nonneg]; simp

theorem nm_len {n : Int} (h : 0 ≤ n) (h1 : n < 1000000000000) : 1 ≤ (nm n).length ∧ (nm n).length ≤ 12 := by
  rw [nm_nat h, Go.Lib.decDigits_length]
  exact ⟨Go.Lib.nDigits_pos _, nDigits_le (by omega) (by omega)⟩

theorem nm_byte {n : Int} (h : 0 ≤ n) : ∀ c ∈ nm n, 48 ≤ c.toNat ∧ c.toNat ≤ 57 := by
  rw [nm_nat h]; exact dec_byte _

theorem nm_blank {n : Int} (h : 0 ≤ n) : ∀ c ∈ nm n, c ≠ 32 := fun c hc e => by
  have := nm_byte h c hc
  subst e
  revert this
  decide

theorem nm_dec {n : Int} (h : 0 ≤ n) : Go.Lib.decNat (nm n) = some n.toNat := by rw [nm_nat h]; exact decNat_dec _

theorem nm_atoi {n : Int} (h : 0 ≤ n) (h1 : n < 1000000000000) : Go.Lib.atoiAll (nm n) = .ok n := by
  have hl := nm_len h h1
  rw [Go.Lib.atoiAll_short _ (by omega)]
  have hd := nm_dec h
  have hb := nm_byte h
  revert hd hb hl
  cases nm n with
  | nil => intro hl; simp at hl
  | cons c r =>
    intro _ hd hb
    have := hb c (by simp)
    have c1 : (c == 45) = false := by
      simp only [beq_eq_false_iff_ne]; rintro rfl; revert this; decide
    have c2 : (c == 43) = false := by
      simp only [beq_eq_false_iff_ne]; rintro rfl; revert this; decide
    simp only [Go.Lib.atoi, c1, c2, hd]
    simp [Go.Lib.NumEnd.ofOption]
    omega

/-! Lines. -/

def voidL : Bs := [118, 111, 105, 100]
/-- The bytes of a list. -/
abbrev ofL (l : Bs) : ByteArray := ⟨l.toArray⟩
/-! Bounds of what is well-formed; a line tells its record. -/

end Lg

/-
  Walks: numerals, as the reference writes them.
-/
namespace Go.Proofs.YtmeomhojbobpbaaGreatDoor
open Go.RowKit Lg Go.Sort

theorem ofL_append (a b : Bs) : ofL a ++ ofL b = ofL (a ++ b) := by
  apply ByteArray.ext
  simp [ofL]

theorem ofL_size (a : Bs) : (ofL a).size = a.length := rfl

/-- Numerals, each behind a blank. -/
def numsL : List Int → Bs
  | [] => []
  | n :: r => 32 :: nm n ++ numsL r

theorem numsL_len (l : List Int) (h : ∀ n ∈ l, 0 ≤ n ∧ n < 1000000000000) : (numsL l).length ≤ 13 * l.length := by
  induction l with
  | nil => simp [numsL]
  | cons n r ih =>
    have := nm_len (h n (by simp)).1 (h n (by simp)).2
    have := ih (fun m hm => h m (by simp [hm]))
    simp [numsL]; omega

end Go.Proofs.YtmeomhojbobpbaaGreatDoor

/-
  Walks of small functions of the reference.
-/
namespace Go.Proofs.YtmeomhojbobpbaaGreatDoor
open Go.RowKit Lg

theorem withinr5_any (a b c : Int) (w : World) :
    Calls Tryz.prog 76 #[.int .i64 a, .int .i64 b, .int .i64 c] w fun e w' => e = .returned (.bool (inn a b c)) ∧ w = w' := by
  go_enter Tryz.func76, Tryz.ntmps76
  go_wp2
  all_goals (go_ret; exact ⟨by simp [inn, *] <;> omega, rfl⟩)

end Go.Proofs.YtmeomhojbobpbaaGreatDoor

/-
  Walks of small functions: ranges, heads.
-/
namespace Go.Proofs.YtmeomhojbobpbaaGreatDoor
open Go.RowKit Lg

theorem within5_any (a b c : Int) (w : World) :
    Calls Tryz.prog 71 #[.int .i64 a, .int .i64 b, .int .i64 c] w fun e w' => e = .returned (.bool (inn a b c)) ∧ w = w' := by
  go_enter Tryz.func71, Tryz.ntmps71
  go_wp2
  all_goals (go_ret; exact ⟨by simp [inn, *] <;> omega, rfl⟩)

end Go.Proofs.YtmeomhojbobpbaaGreatDoor

/-
  Walks: greatest common divisors.
-/
namespace Go.Proofs.YtmeomhojbobpbaaGreatDoor
open Go.RowKit Lg Go.Sort

set_option maxHeartbeats 400000 in
theorem divisor_any (a b : Int) (w : World) (ha : -4000000000000000000 ≤ a ∧ a ≤ 4000000000000000000) (hb : -4000000000000000000 ≤ b ∧ b ≤ 4000000000000000000) :
    Calls Tryz.prog 130 #[.int .i64 a, .int .i64 b] w fun e w' => e = .returned (.int .i64 (Int.gcd a b)) ∧ Below w.heap.size w w' := by
  obtain ⟨g, hg⟩ : ∃ g, g = Int.gcd a b := ⟨_, rfl⟩
  rw [← hg]
  go_enter Tryz.func130, Tryz.ntmps130
  go_wp2
  go_loopw [0, 1] (fun t u wr => ∃ x y : Int, t = .int .i64 x ∧ u = .int .i64 y ∧ -4000000000000000000 ≤ x ∧ x ≤ 4000000000000000000 ∧ -4000000000000000000 ≤ y ∧ y ≤ 4000000000000000000 ∧ Hid (Int.gcd x y = g) ∧ Below w.heap.size w wr) (fun _ u _ => (intOf u).natAbs)
  case atStart => exact ⟨a, b, rfl, rfl, ha.1, ha.2, hb.1, hb.2, hg.symm, Below.refl _ _⟩
  case round =>
    obtain ⟨x, y, rfl, rfl, h1, h2, h3, h4, hG, hB⟩ := hrel
    clear hg
    by_cases hy : y = 0
    · subst hy
      go_wp2
      all_goals
        go_ret
        refine ⟨ret_int ?_, hB⟩
        have := hG.out
        rw [Int.gcd_zero_right] at this
        omega
    · have e1 : (y != 0) = true := by simpa using hy
      have hlt := tmod_lt x y hy
      have h6 := tmod_bd x y 4000000000000000000 ⟨h1, h2⟩
      have hs : Hid (Int.gcd y (x.tmod y) = g) := (gcd_step x y).trans hG.out
      have HL := Lib.hid hlt; clear hlt
      go_wp2
      go_quiet (fail)
      go_wp2
      go_roundw
      case rel => exact ⟨y, _, rfl, rfl, h3, h4, h6.1, h6.2, hs, ⟨hB.os, hB.tape, hB.output, hB.size, hB.block⟩⟩
      case measure => exact HL.out

end Go.Proofs.YtmeomhojbobpbaaGreatDoor

/-
  Walks: the divisors of the reference.
-/
namespace Go.Proofs.YtmeomhojbobpbaaGreatDoor
open Go.RowKit Lg Go.Sort

set_option maxHeartbeats 400000 in
theorem divisor5_any (a b : Int) (w : World) (ha : -4000000000000000000 ≤ a ∧ a ≤ 4000000000000000000) (hb : -4000000000000000000 ≤ b ∧ b ≤ 4000000000000000000) :
    Calls Tryz.prog 118 #[.int .i64 a, .int .i64 b] w fun e w' => e = .returned (.int .i64 (Int.gcd a b)) ∧ w = w' := by
  obtain ⟨g, hg⟩ : ∃ g, g = Int.gcd a b := ⟨_, rfl⟩
  rw [← hg]
  go_enter Tryz.func118, Tryz.ntmps118
  go_wp2
  go_loop [0, 1] (fun t u => ∃ x y : Int, t = .int .i64 x ∧ u = .int .i64 y ∧ -4000000000000000000 ≤ x ∧ x ≤ 4000000000000000000 ∧ -4000000000000000000 ≤ y ∧ y ≤ 4000000000000000000 ∧ Hid (Int.gcd x y = g)) (fun _ u => (intOf u).natAbs)
  case atStart => exact ⟨a, b, rfl, rfl, ha.1, ha.2, hb.1, hb.2, hg.symm⟩
  case round =>
    obtain ⟨x, y, rfl, rfl, h1, h2, h3, h4, hG⟩ := hrel
    clear hg
    by_cases hy : y = 0
    · subst hy
      go_wp2
      all_goals
        go_ret
        refine ⟨ret_int ?_, rfl⟩
        have := hG.out
        rw [Int.gcd_zero_right] at this
        omega
    · have e1 : (y != 0) = true := by simpa using hy
      have hlt := tmod_lt x y hy
      have h6 := tmod_bd x y 4000000000000000000 ⟨h1, h2⟩
      have hs : Hid (Int.gcd y (x.tmod y) = g) := (gcd_step x y).trans hG.out
      have HL := Lib.hid hlt; clear hlt
      go_wp2
      go_round
      case rel => exact ⟨y, _, rfl, rfl, h3, h4, h6.1, h6.2, hs⟩
      case measure => exact HL.out

end Go.Proofs.YtmeomhojbobpbaaGreatDoor

namespace Go.Proofs.YtmeomhojbobpbaaGreatDoor
open Go.RowKit Lg Go.Sort

/-- The first index at which p holds, or -1. -/
def idxP {α : Type} (p : α → Bool) : List α → Int
  | [] => -1
  | x :: xs => if p x then 0 else (if idxP p xs < 0 then -1 else idxP p xs + 1)

theorem idxP_ge {α : Type} (p : α → Bool) (xs : List α) : -1 ≤ idxP p xs := by
  induction xs with
  | nil => simp [idxP]
  | cons x xs ih => unfold idxP; split <;> (try split) <;> omega

theorem idxP_any {α : Type} (p : α → Bool) (xs : List α) : decide (0 ≤ idxP p xs) = xs.any p := by
  induction xs with
  | nil => simp [idxP]
  | cons x xs ih =>
    have := idxP_ge p xs
    rw [List.any_cons, ← ih]
    show decide (0 ≤ if p x = true then (0 : Int) else if idxP p xs < 0 then -1 else idxP p xs + 1) = _
    generalize idxP p xs = r at *
    by_cases h : p x = true
    · simp [h]
    · simp only [h, Bool.false_or, Bool.false_eq_true, if_false]
      split
      · rw [decide_eq_decide]; omega
      · rw [decide_eq_decide]; omega

theorem idxP_hit {α : Type} (p : α → Bool) (xs : List α) (k : Nat) (x : α) (hx : xs[k]? = some x) (h0 : ∀ y ∈ xs.take k, p y = false) (h : p x = true) : idxP p xs = k := by
  induction xs generalizing k with
  | nil => simp at hx
  | cons y ys ih =>
    cases k with
    | zero => simp at hx; subst hx; simp [idxP, h]
    | succ k =>
      have hy : p y = false := h0 y (by simp)
      have := ih k (by simpa using hx) (fun z hz => h0 z (by simp [hz]))
      unfold idxP
      simp only [hy, this]
      split
      · contradiction
      · split <;> omega

theorem idxP_miss {α : Type} (p : α → Bool) (xs : List α) (h0 : ∀ y ∈ xs, p y = false) : idxP p xs = -1 := by
  induction xs with
  | nil => rfl
  | cons y ys ih => unfold idxP; rw [ih (fun z hz => h0 z (by simp [hz]))]; simp [h0 y (by simp)]

set_option maxRecDepth 100000 in
set_option maxHeartbeats 400000 in
theorem indexF_any (p : Frac → Bool) (g : Nat) (lb : Array Value) (eg : ∀ args w, (callFunc g args).run Tryz.prog w = .ok (.enter g args) w) (a : Option Addr) (n cap : Nat) (xs : List Frac) (w : World) (hL : Lst w 2 cF a n cap xs)
    (hp : ∀ W x, Below w.heap.size w W → Calls Tryz.prog g (#[aF x] ++ lb) W (Gives W (.bool (p x)))) :
    Calls Tryz.prog 171 #[.slice a n cap, .func (.func g) #[] lb] w (Gives w (.int .i64 (idxP p xs))) := by
  have hm : cap ≤ 9223372036854775807 := by have := hL.max; unfold maxLen at this; omega
  have hle := hL.le
  have hlen := Lib.hid hL.len
  go_enter Tryz.func171, Tryz.ntmps171
  go_wp2
  go_loopw [8] (fun i wr => ∃ k : Nat, k ≤ n ∧ i = .int .i64 k ∧ Below w.heap.size w wr ∧ ∀ y ∈ xs.take k, p y = false) (fun i _ => n - (intOf i).toNat)
  case atStart => exact ⟨0, Nat.zero_le _, rfl, Below.refl _ _, by simp⟩
  case round =>
    obtain ⟨k, hk, rfl, hB, h0⟩ := hrel
    by_cases hlt : k < n
    · obtain ⟨x, hx⟩ : ∃ x, xs[k]? = some x := ⟨xs[k]'(by rw [hlen.out]; exact hlt), by simp⟩
      obtain ⟨b, off, rfl, hb, hr⟩ := hL.at_ k x hx
      have hr' := rangeAt_below hB hb hr
      have hX := Lib.hid hx; clear hx
      have H0 := Lib.hid h0; clear h0
      go_wp2_with (refine wpList_load_mid rfl 25 _ rfl b (off + k * 2) rfl (cF x) _ hr' Tryz.underlying25 rfl (by kernel_rfl) ?_)
      refine (hp wr x hB).mono ?_
      rintro e w2 ⟨rfl, hB2⟩
      have hB3 : Below w.heap.size w w2 := hB.trans (hB2.mono hB.size)
      cases hq : p x with
      | true =>
        have Hq := Lib.hid hq; clear hq
        go_wp2
        go_ret
        exact ⟨by rw [idxP_hit p xs k x hX.out H0.out Hq.out]; rfl, hB3⟩
      | false =>
        have Hq := Lib.hid hq; clear hq
        go_wp2
        go_roundw
        case rel =>
          refine ⟨k + 1, by omega, by go_num, hB3, fun y hy => ?_⟩
          have := List.getElem?_eq_some_iff.1 hX.out
          obtain ⟨h1, h2⟩ := this
          rw [List.take_succ_eq_append_getElem h1, h2] at hy
          rcases List.mem_append.1 hy with hy | hy
          · exact H0.out y hy
          · simp at hy; subst hy; exact Hq.out
        case measure => simp [intOf]; omega
    · obtain rfl : k = n := by omega
      have H0 := Lib.hid h0; clear h0
      go_wp2
      go_ret
      exact ⟨by rw [idxP_miss p xs (fun y hy => H0.out y (by rw [List.take_of_length_le (by rw [hlen.out]; exact Nat.le_refl _)]; exact hy))]; rfl, hB⟩
set_option maxHeartbeats 400000 in
theorem contF_any (p : Frac → Bool) (g : Nat) (lb : Array Value) (eg : ∀ args w, (callFunc g args).run Tryz.prog w = .ok (.enter g args) w) (a : Option Addr) (n cap : Nat) (xs : List Frac) (w : World) (hL : Lst w 2 cF a n cap xs)
    (hp : ∀ W x, Below w.heap.size w W → Calls Tryz.prog g (#[aF x] ++ lb) W (Gives W (.bool (p x)))) :
    Calls Tryz.prog 128 #[.slice a n cap, .func (.func g) #[] lb] w (Gives w (.bool (xs.any p))) := by
  have hc := indexF_any p g lb eg a n cap xs w hL hp
  rw [← idxP_any]
  clear hp hL
  generalize idxP p xs = r at *
  go_enter Tryz.func128, Tryz.ntmps128
  go_wp2_with (go_at_call 171; refine hc.mono ?_; rintro e w' ⟨rfl, hb'⟩)
  go_ret
  exact ⟨rfl, hb'⟩

end Go.Proofs.YtmeomhojbobpbaaGreatDoor

/-
  Walks: giving up, and what turns it into an error (claim.ranged).
-/
namespace Go.Proofs.YtmeomhojbobpbaaGreatDoor
open Go.RowKit Lg Go.Sort

/-- The value that gives up. -/
abbrev upV : Value := .iface 149 (.agg #[])

set_option maxRecDepth 100000 in
set_option maxHeartbeats 400000 in
theorem catch_up (B : Nat) (x : Int) (older : List PanicEntry) (w : World) (hb : Blk w B #[.int .i64 x] 26) :
    CallsD Tryz.prog 131 #[.pointer (some ⟨B, 0, none⟩)] (.panicking ({ v := upV, recovered := false } :: older)) w fun e u' w' =>
      e = .returned (.tuple #[]) ∧ u' = .panicking ({ v := upV, recovered := true } :: older) ∧ w' = (w.alloc (.cells #[] 149)).setCell ⟨B, 0, none⟩ (.int .i64 2) := by
  have hta : ∀ (v : Value) (w : World), (Instr.typeAssert (.iface 149 v) 20 149 true).run Tryz.prog w = .ok (.tuple #[v, .bool true]) w := fun _ _ => by kernel_rfl
  have hc := fun o => (hb.alloc o).cell 0
  have hf := fun o => (hb.alloc o).frozen 0
  refine callsD_of_wpS Tryz.func131 rfl fun c₀ cs hu => ?_
  simp only [Tryz.ntmps131, List.size_toArray, List.length_cons, List.length_nil, Nat.reduceAdd, Nat.reduceSub, Array.replicate_succ, Array.replicate_zero, List.push_toArray, List.append_toArray, List.nil_append, List.cons_append]
  apply wpS_seq
  apply wpS_region
  simp [wpOpsS, go_sem, recoverD, hu, Exit.thenS]
  refine wpS_of_wp ?_
  go_wp2
  all_goals (cases c₀; simp_all [bodyPostS, results, Tryz.results131])

theorem catch_none (B : Nat) (w : World) :
    CallsD Tryz.prog 131 #[.pointer (some ⟨B, 0, none⟩)] .returning w fun e u' w' => e = .returned (.tuple #[]) ∧ u' = .returning ∧ w' = w := by
  refine callsD_of_wpS Tryz.func131 rfl fun c₀ cs hu => ?_
  simp only [Tryz.ntmps131, List.size_toArray, List.length_cons, List.length_nil, Nat.reduceAdd, Nat.reduceSub, Array.replicate_succ, Array.replicate_zero, List.push_toArray, List.append_toArray, List.nil_append, List.cons_append]
  apply wpS_seq
  apply wpS_region
  simp [wpOpsS, go_sem, recoverD, hu, Exit.thenS]
  refine wpS_of_wp ?_
  go_wp2
  all_goals (cases c₀; simp_all [bodyPostS, results, Tryz.results131])

set_option maxRecDepth 100000 in
set_option maxHeartbeats 400000 in
/-- What is run returns: ranged returns 0. -/
theorem ranged_ok (g : Nat) (cb : Array Value) (eg : ∀ args w, (callFunc g args).run Tryz.prog w = .ok (.enter g args) w) (w : World) (R : World → Prop)
    (hg : Calls Tryz.prog g cb (w.alloc (.cells #[.int .i64 0] 26)) fun e w' => e = .returned (.tuple #[]) ∧ Blk w' w.heap.size #[.int .i64 0] 26 ∧ R w') :
    Calls Tryz.prog 67 #[.func (.func g) #[] cb] w fun e w' => e = .returned (.int .i64 0) ∧ ∃ w1, R w1 ∧ w' = w1.setCell ⟨w.heap.size, 0, none⟩ (.int .i64 0) := by
  have hmf : ∀ (fn : Fn) (first cap : Array Value) (w : World), (Instr.makeFunc fn first cap).run Tryz.prog w = .ok (.func fn first cap) w := fun _ _ _ _ => rfl
  go_enter_defers Tryz.func67, Tryz.ntmps67
  go_wp2
  refine hg.mono ?_
  rintro e w1 ⟨rfl, hb, hr⟩
  have c1 : w1.cell? ⟨w.heap.size, 0, none⟩ = some (.int .i64 0) := hb.cell 0
  have f1 := hb.frozen 0
  have HR := Lib.hid hr; clear hr
  go_wp2
  refine leaves_cons (f := 131) (args := #[.pointer (some ⟨w.heap.size, 0, none⟩)]) (by simp) (by simp [go_sem]) ?_
  refine (catch_none w.heap.size _).mono ?_
  rintro e u' w'' ⟨rfl, rfl, rfl⟩
  have hb2 := hb.setCell 0 (.int .i64 0)
  have c2 : (w1.setCell ⟨w.heap.size, 0, none⟩ (.int .i64 0)).cell? ⟨w.heap.size, 0, none⟩ = some (.int .i64 0) := hb2.cell 0
  simp only [Leaves, settle]
  refine ⟨.int .i64 0, ?_, rfl, w1, HR.out, rfl⟩
  simp [results, Tryz.results67, go_sem, c2]

set_option maxRecDepth 100000 in
set_option maxHeartbeats 400000 in
/-- What is run gives up: ranged returns ErrLimit. -/
theorem ranged_up (g : Nat) (cb : Array Value) (eg : ∀ args w, (callFunc g args).run Tryz.prog w = .ok (.enter g args) w) (w : World) (R : World → Prop)
    (hg : Calls Tryz.prog g cb (w.alloc (.cells #[.int .i64 0] 26)) fun e w' => e = .panicked [{ v := upV, recovered := false }] ∧ Blk w' w.heap.size #[.int .i64 0] 26 ∧ R w') :
    Calls Tryz.prog 67 #[.func (.func g) #[] cb] w fun e w' => e = .returned (.int .i64 2) ∧ ∃ w1, R w1 ∧ w' = (w1.alloc (.cells #[] 149)).setCell ⟨w.heap.size, 0, none⟩ (.int .i64 2) := by
  have hmf : ∀ (fn : Fn) (first cap : Array Value) (w : World), (Instr.makeFunc fn first cap).run Tryz.prog w = .ok (.func fn first cap) w := fun _ _ _ _ => rfl
  go_enter_defers Tryz.func67, Tryz.ntmps67
  go_wp2
  refine hg.mono ?_
  rintro e w1 ⟨rfl, hb, hr⟩
  have HR := Lib.hid hr; clear hr
  go_wp2
  refine leaves_cons (f := 131) (args := #[.pointer (some ⟨w.heap.size, 0, none⟩)]) (by simp) (by simp [go_sem]) ?_
  refine (catch_up w.heap.size 0 [] _ hb).mono ?_
  rintro e u' w'' ⟨rfl, rfl, rfl⟩
  have hb2 := (hb.alloc (.cells #[] 149)).setCell 0 (.int .i64 2)
  have c2 : ((w1.alloc (.cells #[] 149)).setCell ⟨w.heap.size, 0, none⟩ (.int .i64 2)).cell? ⟨w.heap.size, 0, none⟩ = some (.int .i64 2) := hb2.cell 0
  simp only [settle]
  refine ⟨.int .i64 2, ?_, rfl, w1, HR.out, rfl⟩
  simp [results, Tryz.results67, go_sem, c2]

end Go.Proofs.YtmeomhojbobpbaaGreatDoor
