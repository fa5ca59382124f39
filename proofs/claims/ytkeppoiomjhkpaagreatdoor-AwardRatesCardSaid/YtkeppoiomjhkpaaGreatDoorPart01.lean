import Derived.Lib.SlicesCompact
import Derived.Lib.RowBridge
import Derived.Test.YtkeppoiomjhkpaaGreatDoorProg
import Derived.WalkKit
import Derived.WalkSpells
import Derived.WalkLawsBesides
import Derived.Lib.QuietBelow
import Derived.Lib.Hide
import Derived.Deep.MidRow
import Derived.RangeFuncNested
import Derived.RangeFuncBox
import Derived.OwnWalkIn
/-
  Plain data and plain functions of layer 6 (award) and of what it takes of layer 5 (claim): no program in sight.
-/
namespace Lg

structure Frac where
  num : Int
  den : Int
  deriving DecidableEq, Inhabited

structure Rate where
  id : Int
  known : Int
  from_ : Int
  goods : ByteArray
  finder : Frac
  cart : Int
  store : Int
  of_ : Int
  deriving DecidableEq, Inhabited

structure Sale where
  id : Int
  known : Int
  hour : Int
  parcel : Int
  price : Int
  carter : Int
  keeper : Int
  since : Int
  of_ : Int
  deriving DecidableEq, Inhabited

structure Share where
  party : Int
  pence : Int
  deriving DecidableEq, Inhabited

structure Title where
  party : Int
  share : Frac
  deriving DecidableEq, Inhabited

structure Award where
  price : Int
  cart : Int
  store : Int
  find : Int
  rest : Int
  shares : List Share
  deriving DecidableEq, Inhabited

/-- What rates and sales have in common. -/
structure Head where
  id : Int
  known : Int
  of_ : Int
  deriving DecidableEq, Inhabited

def Rate.head (x : Rate) : Head := ⟨x.id, x.known, x.of_⟩
def Sale.head (x : Sale) : Head := ⟨x.id, x.known, x.of_⟩

def inn (n lo hi : Int) : Bool := decide (lo ≤ n) && decide (n ≤ hi)

/-- v is a void of h, known at an hour. -/
def voids (h v : Head) (known : Int) : Bool := decide (v.of_ = h.id) && decide (v.known ≤ known)

/-- A record counts in a list at an hour of knowledge. -/
def counts (l : List Head) (known : Int) (h : Head) : Bool :=
  decide (h.of_ = 0) && decide (h.known ≤ known) && !(l.any fun v => voids h v known)

/-- What counts in a list, in its order. -/
def cntR (l : List Rate) (known : Int) : List Rate := l.filter fun x => counts (l.map Rate.head) known x.head
def cntS (l : List Sale) (known : Int) : List Sale := l.filter fun x => counts (l.map Sale.head) known x.head

def zeroRate : Rate := ⟨0, 0, 0, ⟨#[]⟩, ⟨0, 0⟩, 0, 0, 0⟩
def zeroSale : Sale := ⟨0, 0, 0, 0, 0, 0, 0, 0, 0⟩

/-- One round of the search for the rate in force: of these goods, and for all goods. -/
def bestStep (goods : ByteArray) (hour : Int) (b : Rate × Rate) (x : Rate) : Rate × Rate :=
  if x.goods = goods then
    if x.from_ ≤ hour ∧ (b.1.id = 0 ∨ b.1.from_ ≤ x.from_) then (x, b.2) else b
  else if x.goods = ⟨#[]⟩ ∧ x.from_ ≤ hour ∧ (b.2.id = 0 ∨ b.2.from_ ≤ x.from_) then (b.1, x) else b

def bestOf (l : List Rate) (goods : ByteArray) (hour known : Int) : Rate × Rate := (cntR l known).foldl (bestStep goods hour) (zeroRate, zeroRate)

def inForce (l : List Rate) (goods : ByteArray) (hour known : Int) : Rate × Bool :=
  let b := bestOf l goods hour known
  if 0 < b.1.id then (b.1, true) else (b.2, decide (0 < b.2.id))

end Lg

namespace Lg
/-- The fraction num / den in lowest terms, its denominator not below 0 (den is not 0). -/
def normD (num den : Int) : Int := if den < 0 then -(Int.gcd num den : Int) else (Int.gcd num den : Int)
def normN (num den : Int) : Frac := ⟨num.tdiv (normD num den), den.tdiv (normD num den)⟩
def normOk (num den : Int) : Bool := inn (normN num den).num (-1000000000000) 1000000000000 && decide ((normN num den).den ≤ 1000000)
/-- Norm: the fraction and the error. -/
def normF (num den : Int) : Frac × Int :=
  if decide (den = 0) || !inn num (-1000000000000000) 1000000000000000 || !inn den (-1000000000000000) 1000000000000000 then (⟨0, 0⟩, 1)
  else if normOk num den then (normN num den, 0) else (⟨0, 0⟩, 2)
end Lg

namespace Lg
def chOk (c : UInt8) : Bool := decide (97 ≤ c.toNat ∧ c.toNat ≤ 122) || decide (48 ≤ c.toNat ∧ c.toNat ≤ 57) || decide (c.toNat = 45)
def lowOk (c : UInt8) : Bool := decide (97 ≤ c.toNat ∧ c.toNat ≤ 122)
/-- A name: 1 to 24 bytes, the first one a letter. -/
def nameOk (s : ByteArray) : Bool := inn s.size 1 24 && lowOk (s.data.toList.headD 0) && s.data.toList.all chOk
def allS : ByteArray := ⟨#[97, 108, 108]⟩
def goodsOk (s : ByteArray) : Bool := decide (s = ⟨#[]⟩) || (nameOk s && !decide (s = allS))
def partOk (f : Frac) : Bool := inn f.den 1 1000000 && inn f.num 0 f.den && decide (Int.gcd f.num f.den = 1)
def rateOk (x : Rate) : Bool :=
  inn x.id 1 1000000 && inn x.known 0 1000000 &&
    if x.of_ ≠ 0 then inn x.of_ 1 1000000 && decide (x = { zeroRate with id := x.id, known := x.known, of_ := x.of_ })
    else inn x.from_ 0 1000000 && goodsOk x.goods && partOk x.finder && inn x.cart 0 100000 && inn x.store 0 100000
def saleOk (x : Sale) : Bool :=
  inn x.id 1 1000000 && inn x.known 0 1000000 &&
    if x.of_ ≠ 0 then inn x.of_ 1 1000000 && decide (x = { zeroSale with id := x.id, known := x.known, of_ := x.of_ })
    else inn x.hour 0 x.known && inn x.parcel 10 10000007 && inn x.price 1 1000000000 && inn x.carter 0 40 && inn x.keeper 0 40 && inn x.since 0 x.hour && (decide (0 < x.keeper) || decide (x.since = 0))
end Lg

namespace Lg
/-- Why a record is refused behind others, as far as both kinds go. -/
def follows (l : List Head) (h : Head) (most : Nat) (ok : Bool) : Int :=
  if most ≤ l.length then 2
  else if !ok then 1
  else if l.any (fun y => decide (y.id = h.id)) then 6
  else if (match l.getLast? with | some y => decide (h.known < y.known) | none => false) then 7
  else if h.of_ = 0 then 0
  else if !(l.any fun y => decide (y.id = h.of_) && decide (y.of_ = 0)) then 5
  else if l.any (fun y => decide (y.of_ = h.of_)) then 6
  else 0
def followsR (l : List Rate) (x : Rate) : Int := follows (l.map Rate.head) x.head 100 (rateOk x)
def followsS (l : List Sale) (x : Sale) : Int := follows (l.map Sale.head) x.head 200 (saleOk x)
/-- The first record that is refused behind those ahead of it. -/
def chkFrom {α : Type} (f : List α → α → Int) (pre : List α) : List α → Int × Int
  | [] => (0, 0)
  | x :: r => if f pre x = 0 then chkFrom f (pre ++ [x]) r else (pre.length, f pre x)
def checkRates (l : List Rate) : Int × Int := chkFrom followsR [] l
def soldIn (l : List Sale) (parcel known : Int) : Option Sale := (cntS l known).find? fun x => decide (x.parcel = parcel)
def sellsS (l : List Sale) (x : Sale) : Int :=
  if followsS l x = 0 then (if (soldIn l x.parcel x.known).isSome && decide (x.of_ = 0) then 61 else 0) else followsS l x
def checkSales (l : List Sale) : Int × Int := chkFrom sellsS [] l
def appendRate (l : List Rate) (x : Rate) : List Rate × Int :=
  if (checkRates l).2 = 0 then (if followsR l x = 0 then (l ++ [x], 0) else ([], followsR l x)) else ([], (checkRates l).2)
def rateOf (l : List Rate) (goods : ByteArray) (hour known : Int) : Rate × Int :=
  if (checkRates l).2 = 0 then (if (inForce l goods hour known).2 then ((inForce l goods hour known).1, 0) else (zeroRate, 60)) else (zeroRate, (checkRates l).2)
def saleOf (l : List Sale) (parcel known : Int) : Sale × Int :=
  if (checkSales l).2 = 0 then (match soldIn l parcel known with | some x => (x, 0) | none => (zeroSale, 61)) else (zeroSale, (checkSales l).2)
end Lg

/-
  Plain laws: fractions in lowest terms.
-/
namespace Lg

theorem inn_iff (n lo hi : Int) : inn n lo hi = true ↔ lo ≤ n ∧ n ≤ hi := by unfold inn; simp

theorem gcd_pos_of_den {num den : Int} (h : den ≠ 0) : 0 < Int.gcd num den := Int.gcd_pos_of_ne_zero_right num h

theorem tdiv_self_imp {a g : Int} (ha : 0 < a) (_hg : 0 < g) (h : a.tdiv g = a) : g = 1 := by
  have h1 : a.tdiv g = a / g := Int.tdiv_eq_ediv_of_nonneg (by omega)
  rw [h1] at h
  by_cases h2 : g = 1
  · exact h2
  · exfalso
    have : a / g < a := Int.ediv_lt_self_of_pos_of_ne_one ha (by omega)
    omega

theorem normF_part (f : Frac) : (decide ((normF f.num f.den).2 = 0) && decide (f = (normF f.num f.den).1) && inn f.num 0 f.den) = partOk f := by
  obtain ⟨num, den⟩ := f
  rw [Bool.eq_iff_iff]
  simp only [partOk, Bool.and_eq_true, decide_eq_true_eq, inn_iff]
  constructor
  · rintro ⟨⟨h1, h2⟩, h3, h4⟩
    unfold normF at h1 h2
    by_cases hb : (decide (den = 0) || !inn num (-1000000000000000) 1000000000000000 || !inn den (-1000000000000000) 1000000000000000) = true
    · rw [if_pos hb] at h1; simp at h1
    · rw [if_neg hb] at h1 h2
      simp only [Bool.or_eq_true, not_or, decide_eq_true_eq] at hb
      by_cases ho : normOk num den = true
      · rw [if_pos ho] at h2
        have hden : 0 < den := by omega
        have hg := gcd_pos_of_den (num := num) (den := den) (by omega)
        simp only [normOk, Bool.and_eq_true, inn_iff, decide_eq_true_eq] at ho
        have e2 : den = (normN num den).den := congrArg Frac.den h2
        have hD : normD num den = (Int.gcd num den : Int) := by unfold normD; rw [if_neg (by omega)]
        have e3 : den.tdiv (Int.gcd num den : Int) = den := by rw [← hD]; exact e2.symm
        have e4 := tdiv_self_imp hden (by omega) e3
        refine ⟨⟨⟨by omega, ?_⟩, h3, h4⟩, by omega⟩
        rw [e2]; exact ho.2
      · rw [if_neg ho] at h1; simp at h1
  · rintro ⟨⟨⟨h1, h2⟩, h3, h4⟩, h5⟩
    have hD : normD num den = 1 := by unfold normD; rw [if_neg (by omega), h5]; rfl
    have hN : normN num den = ⟨num, den⟩ := by unfold normN; rw [hD, Int.tdiv_one, Int.tdiv_one]
    have ho : normOk num den = true := by
      unfold normOk; rw [hN]; simp only [Bool.and_eq_true, inn_iff, decide_eq_true_eq]; omega
    have hF : normF num den = (⟨num, den⟩, 0) := by
      unfold normF
      rw [if_neg, if_pos ho, hN]
      simp only [Bool.or_eq_true, decide_eq_true_eq, Bool.not_eq_true', not_or]
      refine ⟨⟨by omega, ?_⟩, ?_⟩
      · rw [Bool.not_eq_false, inn_iff]; omega
      · rw [Bool.not_eq_false, inn_iff]; omega
    rw [hF]
    exact ⟨⟨rfl, rfl⟩, h3, h4⟩

end Lg

/-
  Plain functions of the award and their plain laws, as the walks use them.
-/
namespace Lg
open Go

theorem followsR_eq (xs : List Rate) (x : Rate) : followsR xs x = if 100 ≤ xs.length then 2 else if !rateOk x then 1 else if xs.any (fun y => decide (y.id = x.head.id)) then 6
    else if (match xs.getLast? with | some y => decide (x.head.known < y.head.known) | none => false) then 7 else if x.head.of_ = 0 then 0
    else if !(xs.any fun y => decide (y.id = x.head.of_) && decide (y.of_ = 0)) then 5 else if xs.any (fun y => decide (y.of_ = x.head.of_)) then 6 else 0 := by
  unfold followsR follows
  rw [List.length_map, List.any_map, List.any_map, List.any_map, List.getLast?_map]
  cases xs.getLast? <;> rfl

theorem followsS_eq (xs : List Sale) (x : Sale) : followsS xs x = if 200 ≤ xs.length then 2 else if !saleOk x then 1 else if xs.any (fun y => decide (y.id = x.head.id)) then 6
    else if (match xs.getLast? with | some y => decide (x.head.known < y.head.known) | none => false) then 7 else if x.head.of_ = 0 then 0
    else if !(xs.any fun y => decide (y.id = x.head.of_) && decide (y.of_ = 0)) then 5 else if xs.any (fun y => decide (y.of_ = x.head.of_)) then 6 else 0 := by
  unfold followsS follows
  rw [List.length_map, List.any_map, List.any_map, List.any_map, List.getLast?_map]
  cases xs.getLast? <;> rfl

theorem gcd_step (x y : Int) : Int.gcd y (x.tmod y) = Int.gcd x y := by
  simp only [Int.gcd, Int.natAbs_tmod]
  rw [Nat.gcd_comm x.natAbs, Nat.gcd_rec y.natAbs x.natAbs, Nat.gcd_comm]

theorem tmod_bd (x y M : Int) (hx : -M ≤ x ∧ x ≤ M) : -M ≤ x.tmod y ∧ x.tmod y ≤ M := by
  have h1 : (x.tmod y).natAbs ≤ x.natAbs := by rw [Int.natAbs_tmod]; exact Nat.mod_le _ _
  omega

theorem tmod_lt (x y : Int) (hy : y ≠ 0) : (x.tmod y).natAbs < y.natAbs := by
  rw [Int.natAbs_tmod]; exact Nat.mod_lt _ (by omega)

theorem tdiv_bd (x d M : Int) (hx : -M ≤ x ∧ x ≤ M) : -M ≤ x.tdiv d ∧ x.tdiv d ≤ M := by
  have h1 : (x.tdiv d).natAbs ≤ x.natAbs := by rw [Int.natAbs_tdiv]; exact Nat.div_le_self _ _
  omega

theorem chkFrom_ok {α : Type} (f : List α → α → Int) (pre l : List α) (h : (chkFrom f pre l).2 = 0) : ∀ i x, l[i]? = some x → f (pre ++ l.take i) x = 0 := by
  induction l generalizing pre with
  | nil => intro i x hx; simp at hx
  | cons y ys ih =>
    intro i x hx
    rw [chkFrom] at h
    by_cases h0 : f pre y = 0
    · rw [if_pos h0] at h
      cases i with
      | zero => simp at hx; subst hx; simpa using h0
      | succ i =>
        have := ih _ h i x (by simpa using hx)
        simpa using this
    · rw [if_neg h0] at h; exact absurd h h0

theorem followsR_ok {l : List Rate} {x : Rate} (h : followsR l x = 0) : rateOk x = true ∧ l.length < 100 := by
  rw [followsR_eq] at h
  by_cases h1 : 100 ≤ l.length
  · rw [if_pos h1] at h; cases h
  · rw [if_neg h1] at h
    cases hx : rateOk x
    · rw [hx] at h; cases h
    · exact ⟨rfl, by omega⟩

theorem checkRates_ok {l : List Rate} (h : (checkRates l).2 = 0) : ∀ x ∈ l, rateOk x = true := fun x hx => by
  obtain ⟨i, hi, rfl⟩ := List.mem_iff_getElem.1 hx
  exact (followsR_ok (chkFrom_ok followsR [] l h i l[i] (by simp [hi]))).1

theorem rateOk_from {x : Rate} (h : rateOk x = true) (h0 : x.of_ = 0) : 0 ≤ x.from_ ∧ x.from_ ≤ 1000000 := by
  unfold rateOk at h
  rw [if_neg (by simpa using h0)] at h
  simp only [Bool.and_eq_true, inn_iff] at h
  exact h.2.1.1.1.1

theorem checkRates_len (xs : List Rate) (h : (checkRates xs).2 = 0) : xs.length ≤ 100 := by
  rcases Nat.lt_or_ge 100 xs.length with hl | hl
  · exfalso
    obtain ⟨x, hx⟩ : ∃ x, xs[100]? = some x := ⟨xs[100], by simp⟩
    have := chkFrom_ok followsR [] xs h 100 x hx
    rw [List.nil_append, followsR_eq, if_pos (by rw [List.length_take]; omega)] at this
    cases this
  · exact hl

/-- The hours from which the first rates are, as they are listed. -/
def hoursOf (l : List Rate) : List Int := (l.filter fun x => decide (x.of_ = 0)).map Rate.from_

def startsOf (l : List Rate) : List Int := Lib.compact ((hoursOf l).mergeSort fun x y => decide (x ≤ y))

def turnStep (l : List Rate) (goods : ByteArray) (known : Int) (s : Int × List Int) (h : Int) : Int × List Int :=
  ((inForce l goods h known).1.id, if (inForce l goods h known).1.id = s.1 then s.2 else s.2 ++ [h])

def turnsOf (l : List Rate) (goods : ByteArray) (known : Int) : List Int :=
  if (checkRates l).2 = 0 then ((startsOf l).foldl (turnStep l goods known) (0, [])).2 else []

theorem startsOf_len (xs : List Rate) : (startsOf xs).length ≤ xs.length := by
  unfold startsOf
  refine Nat.le_trans (Lib.compact_length_le _) ?_
  rw [List.length_mergeSort]
  unfold hoursOf
  rw [List.length_map]
  exact List.length_filter_le _ _

theorem turnFold_len (l : List Rate) (goods : ByteArray) (known : Int) (hs : List Int) : ((hs.foldl (turnStep l goods known) (0, [])).2).length ≤ hs.length := by
  suffices ∀ s : Int × List Int, ((hs.foldl (turnStep l goods known) s).2).length ≤ s.2.length + hs.length by simpa using this (0, [])
  induction hs with
  | nil => intro s; simp
  | cons h hs ih =>
    intro s
    refine Nat.le_trans (ih _) ?_
    rw [List.length_cons]
    unfold turnStep
    split <;> simp <;> omega

/-- The hours of a list, run through: from, until, and whether there is one. -/
def touchGo (l m : List Rate) (goods : ByteArray) (known : Int) : List Int → Int × Int × Bool → Int × Int × Bool
  | [], s => s
  | h :: r, s => if (inForce l goods h known).1.id = (inForce m goods h known).1.id then touchGo l m goods known r s
      else touchGo l m goods known r (if s.2.2 = true then s.1 else h, (match r with | [] => 1000000 | h2 :: _ => h2 - 1), true)

def touchedOf (l : List Rate) (x : Rate) (goods : ByteArray) : (Int × Int × Bool) × Int :=
  if (appendRate l x).2 = 0 then (touchGo l (appendRate l x).1 goods x.known (startsOf (appendRate l x).1) (0, 0, false), 0) else ((0, 0, false), (appendRate l x).2)

theorem compact_mem {α : Type} [Inhabited α] [DecidableEq α] (zs : List α) (x : α) (h : x ∈ Lib.compact zs) : x ∈ zs := by
  unfold Lib.compact Lib.compactUpTo at h
  obtain ⟨j, hj, rfl⟩ := List.mem_map.1 h
  have hj' := List.mem_range.1 (List.mem_filter.1 hj).1
  have : zs.toArray[j]! = zs[j] := by simp [hj']
  rw [this]
  exact List.getElem_mem hj'

theorem mem_startsOf {l : List Rate} {h : Int} (hh : h ∈ startsOf l) : ∃ x ∈ l, x.of_ = 0 ∧ x.from_ = h := by
  have h1 := compact_mem _ _ hh
  rw [List.mem_mergeSort] at h1
  unfold hoursOf at h1
  obtain ⟨x, hx, rfl⟩ := List.mem_map.1 h1
  obtain ⟨h2, h3⟩ := List.mem_filter.1 hx
  exact ⟨x, h2, by simpa using h3, rfl⟩

theorem appendRate_ok {l : List Rate} {x : Rate} (h : (appendRate l x).2 = 0) : (appendRate l x).1 = l ++ [x] ∧ (checkRates l).2 = 0 ∧ followsR l x = 0 := by
  unfold appendRate at h ⊢
  by_cases h1 : (checkRates l).2 = 0
  · rw [if_pos h1] at h ⊢
    by_cases h2 : followsR l x = 0
    · rw [if_pos h2]; exact ⟨rfl, h1, h2⟩
    · rw [if_neg h2] at h; exact absurd h h2
  · rw [if_neg h1] at h; exact absurd h h1

theorem starts_bound {l : List Rate} {x : Rate} (h : (appendRate l x).2 = 0) : ∀ t ∈ startsOf (appendRate l x).1, 0 ≤ t ∧ t ≤ 1000000 := fun t ht => by
  obtain ⟨h1, h2, h3⟩ := appendRate_ok h
  obtain ⟨y, hy, h0, rfl⟩ := mem_startsOf ht
  rw [h1] at hy
  refine rateOk_from ?_ h0
  rcases List.mem_append.1 hy with hy | hy
  · exact checkRates_ok h2 y hy
  · simp at hy; subst hy; exact (followsR_ok h3).1

def feesOf (r : Rate) (s : Sale) : (Int × Int) × Int :=
  if (rateOk r && saleOk s && decide (r.of_ ≤ 0) && decide (s.of_ ≤ 0)) = true then
    ((if 0 < s.carter then r.cart else 0, if 0 < s.keeper then r.store * ((s.hour - s.since + 100 - 1).tdiv 100) else 0), 0)
  else ((0, 0), 1)

theorem rateOk_bounds {x : Rate} (h : rateOk x = true) (h0 : x.of_ ≤ 0) : x.of_ = 0 ∧ 0 ≤ x.cart ∧ x.cart ≤ 100000 ∧ 0 ≤ x.store ∧ x.store ≤ 100000 ∧ partOk x.finder = true := by
  unfold rateOk at h
  by_cases h1 : x.of_ = 0
  · rw [if_neg (by simpa using h1)] at h
    simp only [Bool.and_eq_true, inn_iff] at h
    exact ⟨h1, h.2.1.2.1, h.2.1.2.2, h.2.2.1, h.2.2.2, h.2.1.1.2⟩
  · rw [if_pos h1] at h
    simp only [Bool.and_eq_true, inn_iff] at h
    omega

theorem saleOk_bounds {x : Sale} (h : saleOk x = true) (h0 : x.of_ ≤ 0) : x.of_ = 0 ∧ 0 ≤ x.since ∧ x.since ≤ x.hour ∧ x.hour ≤ 1000000 ∧ 1 ≤ x.price ∧ x.price ≤ 1000000000 ∧ 0 ≤ x.carter ∧ x.carter ≤ 40 ∧ 0 ≤ x.keeper ∧ x.keeper ≤ 40 ∧ x.known ≤ 1000000 ∧ x.hour ≤ x.known := by
  unfold saleOk at h
  by_cases h1 : x.of_ = 0
  · rw [if_neg (by simpa using h1)] at h
    simp only [Bool.and_eq_true, inn_iff] at h
    have h2 := h.1; have h3 := h.2
    omega
  · rw [if_pos h1] at h
    simp only [Bool.and_eq_true, inn_iff] at h
    omega

theorem fee_bound {s h st : Int} (h1 : 0 ≤ s) (h2 : s ≤ h) (h3 : h ≤ 1000000) (h4 : 0 ≤ st) (h5 : st ≤ 100000) : 0 ≤ (h - s + 100 - 1).tdiv 100 ∧ (h - s + 100 - 1).tdiv 100 ≤ 10001 ∧ 0 ≤ st * ((h - s + 100 - 1).tdiv 100) ∧ st * ((h - s + 100 - 1).tdiv 100) ≤ 1000100000 := by
  rw [Int.tdiv_eq_ediv_of_nonneg (by omega)]
  have a : 0 ≤ (h - s + 100 - 1) / 100 := by omega
  have b : (h - s + 100 - 1) / 100 ≤ 10001 := by omega
  refine ⟨a, b, Int.mul_nonneg h4 a, ?_⟩
  calc st * ((h - s + 100 - 1) / 100) ≤ 100000 * ((h - s + 100 - 1) / 100) := Int.mul_le_mul_of_nonneg_right h5 a
    _ ≤ 1000100000 := by omega

/-- 1 to 40 parties. -/
def partiesOk (l : List Int) : Bool := inn l.length 1 40 && !(l.any fun p => !inn p 1 40)

def eqVal (pence : Int) (n i : Nat) : Int := pence.tdiv n + (if (i : Int) < pence % (n : Int) then 1 else 0)

def equalOf (pence : Int) (l : List Int) : List Int × Int :=
  if (inn pence 0 1000000000 && partiesOk l) = true then ((List.range l.length).map (eqVal pence l.length), 0) else ([], 1)

theorem equalOf_ok {pence : Int} {l : List Int} (h0 : 0 ≤ pence) (h1 : pence ≤ 1000000000) (h : partiesOk l = true) : equalOf pence l = ((List.range l.length).map (eqVal pence l.length), 0) := by
  unfold equalOf
  rw [h, (inn_iff _ _ _).2 ⟨h0, h1⟩]; rfl

/-- What a party has in a list. -/
def sumP : List Share → Int → Int
  | [], _ => 0
  | x :: r, p => (if x.party = p then x.pence else 0) + sumP r p

theorem sumP_append (l m : List Share) (p : Int) : sumP (l ++ m) p = sumP l p + sumP m p := by
  induction l with
  | nil => simp [sumP]
  | cons x l ih => rw [List.cons_append, sumP, sumP, ih]; omega

theorem sumP_bound (l : List Share) (p M : Int) (hM : 0 ≤ M) (h : ∀ x ∈ l, -M ≤ x.pence ∧ x.pence ≤ M) : -(M * l.length) ≤ sumP l p ∧ sumP l p ≤ M * l.length := by
  induction l with
  | nil => simp [sumP]
  | cons x l ih =>
    have h1 := h x (by simp)
    have h2 := ih (fun y hy => h y (by simp [hy]))
    rw [sumP, List.length_cons]
    have e : M * ((l.length + 1 : Nat) : Int) = M * l.length + M := by rw [Int.natCast_add, Int.mul_add]; simp
    rw [e]
    split <;> omega

/-- The list of the numbers of f that are not 0, by ascending parties. -/
def ListOf (f : Int → Int) (ys : List Share) : Prop :=
  (ys.map Share.party).Pairwise (· < ·) ∧ (∀ x ∈ ys, x.pence = f x.party ∧ f x.party ≠ 0) ∧ ∀ p, f p ≠ 0 → p ∈ ys.map Share.party

theorem listOf_keys {f : Int → Int} {ks : List Int} (h1 : ks.Pairwise (· < ·)) (h2 : ∀ p, p ∈ ks ↔ f p ≠ 0) : ListOf f (ks.map fun p => Share.mk p (f p)) := by
  have e : (ks.map fun p => Share.mk p (f p)).map Share.party = ks := by rw [List.map_map]; exact List.map_id' ks
  refine ⟨by rw [e]; exact h1, ?_, fun p hp => by rw [e]; exact (h2 p).2 hp⟩
  intro x hx
  obtain ⟨p, hp, rfl⟩ := List.mem_map.1 hx
  exact ⟨rfl, (h2 p).1 hp⟩

theorem sorted_strict {ss : List Int} (h : ss.Nodup) : (ss.mergeSort fun x y => decide (x ≤ y)).Pairwise (· < ·) := by
  have h1 : (ss.mergeSort fun x y => decide (x ≤ y)).Pairwise (fun a b => decide (a ≤ b) = true) := List.pairwise_mergeSort (fun a b c h1 h2 => by simp at *; omega) (fun a b => by simp; omega) ss
  have h2 : (ss.mergeSort fun x y => decide (x ≤ y)).Nodup := (List.mergeSort_perm ss _).nodup_iff.2 h
  have h3 := h1.and h2
  exact h3.imp (fun ⟨a, b⟩ => by simp at a; omega)

def awCart (r : Rate) (s : Sale) : Int := min (feesOf r s).1.1 s.price

def awStore (r : Rate) (s : Sale) : Int := min (feesOf r s).1.2 (s.price - awCart r s)

def awFind (r : Rate) (s : Sale) : Int := min ((s.price * r.finder.num).tdiv r.finder.den) (s.price - awCart r s - awStore r s)

def awRest (r : Rate) (s : Sale) : Int := s.price - awCart r s - awStore r s - awFind r s

def awRaw (r : Rate) (s : Sale) (fs : List Int) : List Share :=
  [Share.mk s.carter (awCart r s), Share.mk s.keeper (awStore r s)] ++ List.zipWith Share.mk fs ((List.range fs.length).map (eqVal (awFind r s) fs.length))

def awOk (r : Rate) (s : Sale) (fs : List Int) : Bool := decide ((feesOf r s).2 = 0) && partiesOk fs

theorem feesOf_ok {r : Rate} {s : Sale} (h : (feesOf r s).2 = 0) : rateOk r = true ∧ saleOk s = true ∧ r.of_ ≤ 0 ∧ s.of_ ≤ 0 ∧ (feesOf r s).1 = (if 0 < s.carter then r.cart else 0, if 0 < s.keeper then r.store * ((s.hour - s.since + 100 - 1).tdiv 100) else 0) := by
  unfold feesOf at h ⊢
  by_cases hc : (rateOk r && saleOk s && decide (r.of_ ≤ 0) && decide (s.of_ ≤ 0)) = true
  · rw [if_pos hc]
    simp only [Bool.and_eq_true, decide_eq_true_eq] at hc
    exact ⟨hc.1.1.1, hc.1.1.2, hc.1.2, hc.2, rfl⟩
  · rw [if_neg hc] at h; cases h

theorem fees_bounds {r : Rate} {s : Sale} (h : (feesOf r s).2 = 0) : 0 ≤ (feesOf r s).1.1 ∧ (feesOf r s).1.1 ≤ 100000 ∧ 0 ≤ (feesOf r s).1.2 ∧ (feesOf r s).1.2 ≤ 1000100000 ∧ 1 ≤ s.price ∧ s.price ≤ 1000000000 ∧ 0 ≤ s.carter ∧ s.carter ≤ 40 ∧ 0 ≤ s.keeper ∧ s.keeper ≤ 40 ∧ partOk r.finder = true := by
  obtain ⟨h1, h2, h3, h4, h5⟩ := feesOf_ok h
  obtain ⟨_, a1, a2, a3, a4, a5⟩ := rateOk_bounds h1 h3
  obtain ⟨_, b1, b2, b3, b4, b5, b6, b7, b8, b9, _⟩ := saleOk_bounds h2 h4
  have hb := fee_bound b1 b2 b3 a3 a4
  rw [h5]
  refine ⟨?_, ?_, ?_, ?_, b4, b5, b6, b7, b8, b9, a5⟩
  · dsimp only; split <;> omega
  · dsimp only; split <;> omega
  · dsimp only; split
    · exact hb.2.2.1
    · omega
  · dsimp only; split
    · exact hb.2.2.2
    · omega

theorem partOk_bounds {f : Frac} (h : partOk f = true) : 0 ≤ f.num ∧ f.num ≤ f.den ∧ 1 ≤ f.den ∧ f.den ≤ 1000000 := by
  unfold partOk at h
  simp only [Bool.and_eq_true, inn_iff] at h
  omega

theorem aw_bounds {r : Rate} {s : Sale} (h : (feesOf r s).2 = 0) : 0 ≤ awCart r s ∧ awCart r s ≤ s.price ∧ 0 ≤ awStore r s ∧ awStore r s ≤ s.price - awCart r s ∧ 0 ≤ awFind r s ∧ awFind r s ≤ s.price - awCart r s - awStore r s := by
  obtain ⟨h1, h2, h3, h4, h5, h6, _, _, _, _, h7⟩ := fees_bounds h
  obtain ⟨f1, f2, f3, f4⟩ := partOk_bounds h7
  have hq : 0 ≤ (s.price * r.finder.num).tdiv r.finder.den := by
    rw [Int.tdiv_eq_ediv_of_nonneg (Int.mul_nonneg (by omega) f1)]
    exact Int.ediv_nonneg (Int.mul_nonneg (by omega) f1) (by omega)
  have a1 : 0 ≤ awCart r s ∧ awCart r s ≤ s.price := by unfold awCart; omega
  have a2 : 0 ≤ awStore r s ∧ awStore r s ≤ s.price - awCart r s := by unfold awStore; omega
  have a3 : 0 ≤ awFind r s ∧ awFind r s ≤ s.price - awCart r s - awStore r s := by unfold awFind; omega
  exact ⟨a1.1, a1.2, a2.1, a2.2, a3.1, a3.2⟩

theorem eqVal_bounds {m : Int} {n i : Nat} (h : 0 ≤ m) (hn : 0 < n) : 0 ≤ eqVal m n i ∧ eqVal m n i ≤ m + 1 := by
  unfold eqVal
  rw [Int.tdiv_eq_ediv_of_nonneg h]
  have h1 : 0 ≤ m / (n : Int) := Int.ediv_nonneg h (by omega)
  have h2 : m / (n : Int) ≤ m := Int.ediv_le_self _ h
  split <;> omega

theorem eqVal_le {m : Int} {n i : Nat} (h : 0 ≤ m) (hn : 0 < n) : eqVal m n i ≤ m := by
  unfold eqVal
  rw [Int.tdiv_eq_ediv_of_nonneg h]
  have h2 : m / (n : Int) ≤ m := Int.ediv_le_self _ h
  have h3 := Int.mul_ediv_add_emod m n
  have h4 : 0 ≤ m / (n : Int) := Int.ediv_nonneg h (by omega)
  have h5 := Int.emod_lt_of_pos m (show (0 : Int) < n by omega)
  split
  · rename_i hi
    have h6 : (n : Int) * (m / n) ≥ m / n := by
      have : (1 : Int) * (m / n) ≤ n * (m / n) := Int.mul_le_mul_of_nonneg_right (by omega) h4
      omega
    omega
  · omega

theorem awRaw_bounds {r : Rate} {s : Sale} {fs : List Int} (h : (feesOf r s).2 = 0) (hp : partiesOk fs = true) : ∀ x ∈ awRaw r s fs, 0 ≤ x.party ∧ x.party ≤ 40 ∧ 0 ≤ x.pence ∧ x.pence ≤ 1000000000 := by
  obtain ⟨h1, h2, h3, h4, h5, h6, h7, h8, h9, h10, _⟩ := fees_bounds h
  obtain ⟨a1, a2, a3, a4, a5, a6⟩ := aw_bounds h
  unfold partiesOk at hp
  simp only [Bool.and_eq_true, inn_iff, Bool.not_eq_true', List.any_eq_false, Bool.not_eq_false] at hp
  intro x hx
  unfold awRaw at hx
  rcases List.mem_append.1 hx with hx | hx
  · simp only [List.mem_cons, List.not_mem_nil, or_false] at hx
    rcases hx with rfl | rfl
    · dsimp only; omega
    · dsimp only; omega
  · obtain ⟨i, hi, rfl⟩ := List.mem_iff_getElem.1 hx
    rw [List.length_zipWith, List.length_map, List.length_range, Nat.min_self] at hi
    rw [List.getElem_zipWith]
    have hf := hp.2 fs[i] (List.getElem_mem hi)
    simp only [List.getElem_map, List.getElem_range]
    have e1 := eqVal_bounds (i := i) a5 (show 0 < fs.length by omega)
    have e2 := eqVal_le (i := i) a5 (show 0 < fs.length by omega)
    omega

/-- The error, or 0 and the rate and the sale. -/
def awPick (rs : List Rate) (ss : List Sale) (parcel : Int) (goods : ByteArray) (hour known : Int) : Int × Rate × Sale :=
  if (checkRates rs).2 = 0 then
    if (saleOf ss parcel known).2 = 0 then
      if (rateOf rs goods hour known).2 = 0 then (0, (rateOf rs goods hour known).1, (saleOf ss parcel known).1)
      else ((rateOf rs goods hour known).2, zeroRate, zeroSale)
    else ((saleOf ss parcel known).2, zeroRate, zeroSale)
  else ((checkRates rs).2, zeroRate, zeroSale)

def badShare (x : Share) : Bool := !inn x.party 0 40 || !inn x.pence (-1000000000) 1000000000

def mergeableOf (l : List Share) : Int := if 1000 < l.length then 2 else if l.any badShare = true then 1 else 0

theorem mergeable_ok {l : List Share} (h : mergeableOf l = 0) : l.length ≤ 1000 ∧ ∀ x ∈ l, 0 ≤ x.party ∧ x.party ≤ 40 ∧ -1000000000 ≤ x.pence ∧ x.pence ≤ 1000000000 := by
  unfold mergeableOf at h
  by_cases h1 : 1000 < l.length
  · rw [if_pos h1] at h; cases h
  · rw [if_neg h1] at h
    by_cases h2 : l.any badShare = true
    · rw [if_pos h2] at h; cases h
    · refine ⟨by omega, fun x hx => ?_⟩
      have h3 : badShare x = false := by
        cases hb : badShare x
        · rfl
        · exact absurd (List.any_eq_true.2 ⟨x, hx, hb⟩) h2
      unfold badShare at h3
      simp only [Bool.or_eq_false_iff, Bool.not_eq_false', inn_iff] at h3
      omega

def changeErr (l m : List Share) : Int := if mergeableOf l = 0 then mergeableOf m else mergeableOf l

def validF (f : Frac) : Bool := inn f.den 1 1000000 && inn f.num (-1000000000000) 1000000000000 && decide (Int.gcd f.num f.den = 1)

/-- A fraction's numbers are in range. -/
def frOk (f : Frac) : Prop := -1000000000000 ≤ f.num ∧ f.num ≤ 1000000000000 ∧ 1 ≤ f.den ∧ f.den ≤ 1000000

theorem mul_bound {x y : Int} (h1 : -1000000000000 ≤ x) (h2 : x ≤ 1000000000000) (h3 : 1 ≤ y) (h4 : y ≤ 1000000) : -1000000000000000000 ≤ x * y ∧ x * y ≤ 1000000000000000000 := by
  constructor
  · calc (-1000000000000000000 : Int) ≤ -1000000000000 * y := by omega
      _ ≤ x * y := Int.mul_le_mul_of_nonneg_right h1 (by omega)
  · calc x * y ≤ 1000000000000 * y := Int.mul_le_mul_of_nonneg_right h2 (by omega)
      _ ≤ 1000000000000000000 := by omega

def sumStep (acc f : Frac) : Frac := normN (acc.num * f.den + f.num * acc.den) (acc.den * f.den)

def sumFr (l : List Frac) : Frac := l.foldl sumStep ⟨0, 1⟩

/-- No step of the sum is out of range. -/
def sumsOk (l : List Frac) : Prop := ∀ k f, l[k]? = some f → frOk f ∧ frOk (sumFr (l.take k)) ∧ normOk ((sumFr (l.take k)).num * f.den + f.num * (sumFr (l.take k)).den) ((sumFr (l.take k)).den * f.den) = true

def soldPair (o : Option Sale) : Sale × Bool := match o with | some x => (x, true) | none => (zeroSale, false)

theorem take_eq_step {α : Type} {xs ys : List α} {k : Nat} {x y : α} (h : xs.take k = ys.take k) (hx : xs[k]? = some x) (hy : ys[k]? = some y) (e : x = y) : xs.take (k + 1) = ys.take (k + 1) := by
  obtain ⟨h1, h2⟩ := List.getElem?_eq_some_iff.1 hx
  obtain ⟨h3, h4⟩ := List.getElem?_eq_some_iff.1 hy
  rw [List.take_succ_eq_append_getElem h1, List.take_succ_eq_append_getElem h3, h2, h4, h, e]

end Lg

/-
  How the plain data of the specification lie in Go's memory; small laws for the walks.
-/
namespace Go.Proofs.YtkeppoiomjhkpaaGreatDoor
open Go.RowKit Lg

/-! ### Values -/
abbrev vi (n : Int) : Value := .int .i64 n
abbrev cF (x : Frac) : List Value := [.int .i64 x.num, .int .i64 x.den]
abbrev cR (x : Rate) : List Value := [.int .i64 x.id, .int .i64 x.known, .int .i64 x.from_, .string x.goods, .int .i64 x.finder.num, .int .i64 x.finder.den, .int .i64 x.cart, .int .i64 x.store, .int .i64 x.of_]
abbrev cS (x : Sale) : List Value := [.int .i64 x.id, .int .i64 x.known, .int .i64 x.hour, .int .i64 x.parcel, .int .i64 x.price, .int .i64 x.carter, .int .i64 x.keeper, .int .i64 x.since, .int .i64 x.of_]
abbrev cSh (x : Share) : List Value := [.int .i64 x.party, .int .i64 x.pence]
abbrev cT (x : Title) : List Value := [.int .i64 x.party, .int .i64 x.share.num, .int .i64 x.share.den]
abbrev cH (x : Head) : List Value := [.int .i64 x.id, .int .i64 x.known, .int .i64 x.of_]

abbrev cI (x : Int) : List Value := [.int .i64 x]
abbrev cB (x : UInt8) : List Value := [.int .u8 x.toNat]

abbrev aF (x : Frac) : Value := .agg #[.int .i64 x.num, .int .i64 x.den]
abbrev aR (x : Rate) : Value := .agg #[.int .i64 x.id, .int .i64 x.known, .int .i64 x.from_, .string x.goods, .int .i64 x.finder.num, .int .i64 x.finder.den, .int .i64 x.cart, .int .i64 x.store, .int .i64 x.of_]
abbrev aS (x : Sale) : Value := .agg #[.int .i64 x.id, .int .i64 x.known, .int .i64 x.hour, .int .i64 x.parcel, .int .i64 x.price, .int .i64 x.carter, .int .i64 x.keeper, .int .i64 x.since, .int .i64 x.of_]
abbrev aSh (x : Share) : Value := .agg #[.int .i64 x.party, .int .i64 x.pence]
abbrev aT (x : Title) : Value := .agg #[.int .i64 x.party, .int .i64 x.share.num, .int .i64 x.share.den]
abbrev aH (x : Head) : Value := .agg #[.int .i64 x.id, .int .i64 x.known, .int .i64 x.of_]

/-! ### What a call does -/
/-- It returns v; nothing that lay has turned. -/
def Gives (w : World) (v : Value) (e : Ending) (w' : World) : Prop := e = .returned v ∧ Below w.heap.size w w'

theorem Gives.of_same {w : World} {v : Value} {e : Ending} {w' : World} (h : e = .returned v ∧ w = w') : Gives w v e w' := by
  obtain ⟨h1, rfl⟩ := h; exact ⟨h1, Below.refl _ _⟩

/-- A list in memory: the slice's value, its elements of k cells each. -/
structure Lst {α : Type} (w : World) (k : Nat) (enc : α → List Value) (a : Option Addr) (n cap : Nat) (xs : List α) : Prop where
  len : xs.length = n
  le : n ≤ cap
  max : cap ≤ maxLen
  at_ : ∀ i x, xs[i]? = some x → ∃ b off, a = some ⟨b, off, none⟩ ∧ b < w.heap.size ∧ w.rangeAt b (off + i * k) (enc x)

theorem rangeAt_below {B : Nat} {w w' : World} (h : Below B w w') {b o : Nat} {cs : List Value} (hb : b < B) (hr : w.rangeAt b o cs) : w'.rangeAt b o cs :=
  fun j v hv => (h.cell (p := ⟨b, o + j, none⟩) hb).trans (hr j v hv)

theorem Lst.below {α : Type} {w w' : World} {k : Nat} {enc : α → List Value} {a : Option Addr} {n cap : Nat} {xs : List α} (h : Lst w k enc a n cap xs) (hb : Below w.heap.size w w') : Lst w' k enc a n cap xs :=
  ⟨h.len, h.le, h.max, fun i x hx => by
    obtain ⟨b, off, ha, hlt, hr⟩ := h.at_ i x hx
    exact ⟨b, off, ha, Nat.lt_of_lt_of_le hlt hb.size, rangeAt_below hb hlt hr⟩⟩

theorem Lst.nil {α : Type} (w : World) (k : Nat) (enc : α → List Value) : Lst w k enc none 0 0 ([] : List α) :=
  ⟨rfl, Nat.le_refl _, Nat.zero_le _, fun i x hx => by simp at hx⟩

theorem cell_allocs {w : World} {a : Addr} {v : Value} (h : w.cell? a = some v) : ∀ o, (w.alloc o).cell? a = some v := fun o => by
  rw [World.cell?_alloc_lt _ _ _ (block_lt_of_cell h)]; exact h

theorem toList_beq (a b : ByteArray) : (a.toList == b.toList) = decide (a = b) := by
  rw [Bool.eq_iff_iff]
  simp only [beq_iff_eq, decide_eq_true_eq]
  constructor
  · intro h
    rw [ByteArray.toList_eq, ByteArray.toList_eq] at h
    exact ByteArray.ext (Array.toList_inj.1 h)
  · rintro rfl; rfl

theorem ret_bool {a b : Bool} (h : a = b) : Ending.returned (.bool a) = .returned (.bool b) := by rw [h]
theorem ret_int {k : IntKind} {a b : Int} (h : a = b) : Ending.returned (.int k a) = .returned (.int k b) := by rw [h]

theorem bcell {W w1 : World} (hb : Below W.heap.size W w1) : (∀ b o, b < W.heap.size → w1.cell? ⟨b, o, none⟩ = W.cell? ⟨b, o, none⟩) ∧ (∀ b o, b < W.heap.size → w1.frozen? ⟨b, o, none⟩ = W.frozen? ⟨b, o, none⟩) :=
  ⟨fun b o h => hb.cell (p := ⟨b, o, none⟩) h, fun b o h => hb.frozen (p := ⟨b, o, none⟩) h⟩

end Go.Proofs.YtkeppoiomjhkpaaGreatDoor

/-
  Blocks of cells that are known whole: what stays of them, what a store makes of them.
-/
namespace Go.Proofs.YtkeppoiomjhkpaaGreatDoor
open Go.RowKit Lg

/-- Block B is the cells cs, of type t, none of them frozen. -/
def Blk (W : World) (B : Nat) (cs : Array Value) (t : TypeId) : Prop := W.heap[B]? = some (.cells cs t (0, 0))

theorem Blk.lt {W : World} {B : Nat} {cs : Array Value} {t : TypeId} (h : Blk W B cs t) : B < W.heap.size := (Array.getElem?_eq_some_iff.1 h).1
theorem Blk.new (W : World) (t : TypeId) (cs : Array Value) : Blk (W.alloc (.cells cs t)) W.heap.size cs t := World.alloc_heap_new W _
theorem Blk.kept {W W' : World} {row : Option Nat} {B : Nat} {t : TypeId} {cs : Array Value} (h : Blk W B cs t) (hg : W.grownBy W' row) (hne : some B ≠ row) : Blk W' B cs t := (hg.block B h.lt hne).trans h
theorem Blk.alloc {W : World} {B : Nat} {t : TypeId} {cs : Array Value} (h : Blk W B cs t) (o : Obj) : Blk (W.alloc o) B cs t := h.kept (World.grownBy_alloc W o none) (by simp)
theorem Blk.below {W W' : World} {n B : Nat} {t : TypeId} {cs : Array Value} (h : Blk W B cs t) (hb : Below n W W') (hn : B < n) : Blk W' B cs t := (hb.block B hn).trans h
theorem Blk.below' {W W' : World} {B : Nat} {t : TypeId} {cs : Array Value} (h : Blk W B cs t) (hb : Below W.heap.size W W') : Blk W' B cs t := h.below hb h.lt
theorem Blk.cell {W : World} {B : Nat} {t : TypeId} {cs : Array Value} (h : Blk W B cs t) (j : Nat) : W.cell? ⟨B, j, none⟩ = cs[j]? := by simp [World.cell?, show W.heap[B]? = _ from h]
theorem Blk.frozen {W : World} {B : Nat} {t : TypeId} {cs : Array Value} (h : Blk W B cs t) (j : Nat) : W.frozen? ⟨B, j, none⟩ = false := by simp [World.frozen?, show W.heap[B]? = _ from h]
theorem Blk.drew {W : World} {B : Nat} {t : TypeId} {cs : Array Value} (h : Blk W B cs t) : Blk W.drew B cs t := h
theorem Blk.range {W : World} {B : Nat} {t : TypeId} {cs : Array Value} (h : Blk W B cs t) (o : Nat) (vs : List Value) (hv : ∀ j v, vs[j]? = some v → cs[o + j]? = some v) : W.rangeAt B o vs :=
  fun j v hj => by rw [h.cell]; exact hv j v hj
theorem Blk.there {W : World} {B : Nat} {t : TypeId} {cs : Array Value} (h : Blk W B cs t) (o n : Nat) (hn : o + n ≤ cs.size) : W.there B o n :=
  fun j hj => ⟨by rw [h.cell, Array.getElem?_eq_getElem (by omega)]; rfl, h.frozen _⟩
theorem Blk.other {W : World} {B C : Nat} {t u : TypeId} {cs ds : Array Value} (h : Blk W B cs t) (k : Blk W C ds u) (htu : t ≠ u) : B ≠ C := fun e => by
  subst e
  have := (show W.heap[B]? = _ from h).symm.trans k
  simp at this
  exact htu this.2

/-- The cells behind a store of many. -/
def setAll (cs : Array Value) : Nat → List Value → Array Value
  | _, [] => cs
  | o, v :: r => setAll (cs.setIfInBounds o v) (o + 1) r

theorem Blk.setCell {W : World} {B : Nat} {t : TypeId} {cs : Array Value} (h : Blk W B cs t) (o : Nat) (v : Value) : Blk (W.setCell ⟨B, o, none⟩ v) B (cs.setIfInBounds o v) t := by
  obtain ⟨hlt, hk⟩ := Array.getElem?_eq_some_iff.1 h
  show (W.heap.modify B _)[B]? = _
  rw [Array.getElem?_eq_getElem (by rw [Array.size_modify]; exact hlt), Array.getElem_modify_self, hk]
  rfl
theorem Blk.setCells {W : World} {B : Nat} {t : TypeId} {cs : Array Value} (h : Blk W B cs t) (o : Nat) (vs : List Value) : Blk (W.setCells B o vs) B (setAll cs o vs) t := by
  induction vs generalizing W cs o with
  | nil => exact h
  | cons v r ih => exact ih (h.setCell o v) (o + 1)
theorem Blk.setCell_other {W : World} {B C : Nat} {t : TypeId} {cs : Array Value} (h : Blk W B cs t) (hne : B ≠ C) (o : Nat) (v : Value) : Blk (W.setCell ⟨C, o, none⟩ v) B cs t :=
  (Below.heap_setCell W ⟨C, o, none⟩ v B hne).trans h
theorem setCells_heap (W : World) (C o : Nat) (vs : List Value) (k : Nat) (hne : k ≠ C) : (W.setCells C o vs).heap[k]? = W.heap[k]? := by
  induction vs generalizing W o with
  | nil => rfl
  | cons v r ih => exact (ih _ _).trans (Below.heap_setCell W ⟨C, o, none⟩ v k hne)
theorem Blk.setCells_other {W : World} {B C : Nat} {t : TypeId} {cs : Array Value} (h : Blk W B cs t) (hne : B ≠ C) (o : Nat) (vs : List Value) : Blk (W.setCells C o vs) B cs t :=
  (setCells_heap W C o vs B hne).trans h

theorem below_setCells {n : Nat} {A W : World} (h : Below n A W) {B : Nat} (hB : n ≤ B) (o : Nat) (vs : List Value) : Below n A (W.setCells B o vs) := by
  induction vs generalizing W o with
  | nil => exact h
  | cons v r ih => exact ih (h.setCell (p := ⟨B, o, none⟩) hB v) _
theorem keepsOthers_setCells (W : World) (B o : Nat) (vs : List Value) : KeepsOthers W (W.setCells B o vs) := by
  induction vs generalizing W o with
  | nil => exact KeepsOthers.refl _
  | cons v r ih => exact (KeepsOthers.setCell W _ v).trans (ih _ _)
theorem size_setCells (W : World) (B o : Nat) (vs : List Value) : (W.setCells B o vs).heap.size = W.heap.size := by
  induction vs generalizing W o with
  | nil => rfl
  | cons v r ih => rw [World.setCells, ih]; simp [World.setCell]

/-- What is said of a block of cells is the caller's own. -/
theorem Blk.own {B n : Nat} {t : TypeId} {cs : Array Value} {W W' : World} {row : Option Nat} (h : Blk W B cs t) (hg : W.grownBy W' row)
    (hr : ∀ r, row = some r → n ≤ r ∧ ∃ o : Obj, W.heap[r]? = some o ∧ o.isCells = false) : Blk W' B cs t :=
  h.kept hg fun e => by
    obtain ⟨_, o, ho, hc⟩ := hr B e.symm
    rw [show W.heap[B]? = _ from h] at ho; cases ho; cases hc

theorem run_loadVar_blk {P : Program} (w : World) (g : Nat) (T ty : TypeId) (cs : List Value) (d : TypeDesc) (hg : Blk w g cs.toArray T) (hu : P.underlying ty = some d) (hd : d.isRow = true) (hi : (P.info? ty).map (·.size) = some cs.length) :
    (loadVar ty ⟨g, 0, none⟩).run P w = .ok (.agg cs.toArray) w :=
  run_loadVar_mid w g 0 ty cs d (hg.range 0 cs (fun j v h => by simpa using h)) hu hd hi

/-- A result in a cell, and one in a slot. -/
theorem results_cell_tmp {P : Program} {fn : Func} {p t : Tmp} {ty : TypeId} (h : fn.results = #[.cell p ty, .tmp t]) (tmps : Array Value) (w : World) (g : Nat) (T : TypeId) (cs : List Value) (d : TypeDesc)
    (hp : tmps.getD p undef = .pointer (some ⟨g, 0, none⟩)) (hg : Blk w g cs.toArray T) (hu : P.underlying ty = some d) (hd : d.isRow = true) (hi : (P.info? ty).map (·.size) = some cs.length) :
    (results fn tmps).run P w = .ok (.tuple #[.agg cs.toArray, tmps.getD t undef]) w := by
  have hp' : tmps[p]?.getD undef = .pointer (some ⟨g, 0, none⟩) := by simpa using hp
  simp [results, h, hp', asAddr, run_loadVar_blk w g T ty cs d hg hu hd hi]

theorem Blk.putObj {W : World} {B : Nat} {t : TypeId} {cs : Array Value} (h : Blk W B cs t) {l : Nat} (o : Obj) (hne : B ≠ l) : Blk (W.putObj l o) B cs t :=
  (World.putObj_heap_other hne).trans h

theorem wpListIn_load_mid {F : Fence} {n : Nat} {P : Program} {ops : Array Oper} {rest : List Oper} {op : Oper} {a : Act} {w : World} {Q : Exit → Act → World → Prop} (hgd : op.guard = none) (ty : TypeId) (x : Operand) (ho : op.op = .load ty x)
    (b o : Nat) (hx : a.eval x = .pointer (some ⟨b, o, none⟩)) (cs : List Value) (d : TypeDesc) (hc : w.rangeAt b o cs)
    (hu : P.underlying ty = some d) (hd : d.isRow = true) (hi : (P.info? ty).map (·.size) = some cs.length)
    (h : wpListIn F n P ops Q rest (a.put op.dst (.agg cs.toArray)) w) : wpListIn F n P ops Q (op :: rest) a w := by
  refine wpListIn_plain hgd fun K' hK' => ?_
  unfold Oper.wpIn
  refine ⟨by simp [Oper.about, ho], ?_⟩
  rw [Oper.semAt_plain F _ _ (by rw [ho]; intro c hc'; cases hc')]
  unfold execOp
  simp only [ho, hx, Instr.loadAt, Instr.sureAddr, Sem.run_bind, Sem.run_pure, Result.andThen_ok, run_loadVar_mid w b o ty cs d hc hu hd hi]
  exact hK' _ _ h

theorem wpListIn_store_mid {F : Fence} {n : Nat} {P : Program} {ops : Array Oper} {rest : List Oper} {op : Oper} {a : Act} {w : World} {Q : Exit → Act → World → Prop} (hgd : op.guard = none) (ty : TypeId) (x y : Operand) (ho : op.op = .store ty x y)
    (b o : Nat) (cells : Array Value) (hx : a.eval x = .pointer (some ⟨b, o, none⟩)) (hy : a.eval y = .agg cells)
    (ht : w.there b o cells.size) (hi : (P.info? ty).map (·.size) = some cells.size) (h1 : cells.all (·.oneCell') = true)
    (h : wpListIn F n P ops Q rest (a.put op.dst undef) (w.setCells b o cells.toList)) : wpListIn F n P ops Q (op :: rest) a w := by
  refine wpListIn_plain hgd fun K' hK' => ?_
  unfold Oper.wpIn
  refine ⟨by simp [Oper.about, ho], ?_⟩
  rw [Oper.semAt_plain F _ _ (by rw [ho]; intro c hc'; cases hc')]
  unfold execOp
  simp only [ho, hx, hy, Instr.storeAt, Instr.sureAddr, Sem.run_bind, Sem.run_pure, Result.andThen_ok, run_storeVar_mid w b o ty cells ht hi h1]
  exact hK' _ _ h

end Go.Proofs.YtkeppoiomjhkpaaGreatDoor
