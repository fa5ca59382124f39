
/-
  Plain data and plain functions of layer 6 (award) and of what it takes of layer 5 (claim): no program in sight.
-/
namespace Lg

structure Frac where
  num : Int
  den : Int
  deriving DecidableEq, Inhabited

structure Rate where
  id : Int
  known : Int
  from_ : Int
  goods : ByteArray
  finder : Frac
  cart : Int
  store : Int
  of_ : Int
  deriving DecidableEq, Inhabited

structure Sale where
  id : Int
  known : Int
  hour : Int
  parcel : Int
  price : Int
  carter : Int
  keeper : Int
  since : Int
  of_ : Int
  deriving DecidableEq, Inhabited

structure Share where
  party : Int
  pence : Int
  deriving DecidableEq, Inhabited

structure Title where
  party : Int
  share : Frac
  deriving DecidableEq, Inhabited

structure Award where
  price : Int
  cart : Int
  store : Int
  find : Int
  rest : Int
  shares : List Share
  deriving DecidableEq, Inhabited

/-- What rates and sales have in common. -/
structure Head where
  id : Int
  known : Int
  of_ : Int
  deriving DecidableEq, Inhabited

def inn (n lo hi : Int) : Bool := decide (lo ≤ n) && decide (n ≤ hi)

end Lg

namespace Lg
/-- The fraction num / den in lowest terms, its denominator not below 0 (den is not 0). -/
def normD (num den : Int) : Int := if den < 0 then -(Int.gcd num den : Int) else (Int.gcd num den : Int)
def normN (num den : Int) : Frac := ⟨num.tdiv (normD num den), den.tdiv (normD num den)⟩
def normOk (num den : Int) : Bool := inn (normN num den).num (-1000000000000) 1000000000000 && decide ((normN num den).den ≤ 1000000)
/-- Norm: the fraction and the error. -/
def normF (num den : Int) : Frac × Int :=
  if decide (den = 0) || !inn num (-1000000000000000) 1000000000000000 || !inn den (-1000000000000000) 1000000000000000 then (⟨0, 0⟩, 1)
  else if normOk num den then (normN num den, 0) else (⟨0, 0⟩, 2)
end Lg

namespace Lg
end Lg

namespace Lg
/-- Why a record is refused behind others, as far as both kinds go. -/
def follows (l : List Head) (h : Head) (most : Nat) (ok : Bool) : Int :=
  if most ≤ l.length then 2
  else if !ok then 1
  else if l.any (fun y => decide (y.id = h.id)) then 6
  else if (match l.getLast? with | some y => decide (h.known < y.known) | none => false) then 7
  else if h.of_ = 0 then 0
  else if !(l.any fun y => decide (y.id = h.of_) && decide (y.of_ = 0)) then 5
  else if l.any (fun y => decide (y.of_ = h.of_)) then 6
  else 0
/-- The first record that is refused behind those ahead of it. -/
def chkFrom {α : Type} (f : List α → α → Int) (pre : List α) : List α → Int × Int
  | [] => (0, 0)
  | x :: r => if f pre x = 0 then chkFrom f (pre ++ [x]) r else (pre.length, f pre x)
end Lg

/-
  Plain laws: fractions in lowest terms.
-/
namespace Lg

theorem inn_iff (n lo hi : Int) : inn n lo hi = true ↔ lo ≤ n ∧ n ≤ hi := by unfold inn; simp

theorem gcd_pos_of_den {num den : Int} (h : den ≠ 0) : 0 < Int.gcd num den := Int.gcd_pos_of_ne_zero_right num h

end Lg
