import Derived.Test.YtmeomhojbobpbaaGreatDoorPart02
import Derived.Test.YtmeomhojbobpbaaGreatDoorPart06
import Derived.Lib.Small
/-
  Plain functions: sums of fractions with their errors; how pence are split.
-/
namespace Lg
open Go

def sumGo (acc : Frac) : List Frac → Frac × Int
  | [] => (acc, 0)
  | f :: r => if normOk (acc.num * f.den + f.num * acc.den) (acc.den * f.den) = true then sumGo (sumStep acc f) r else (⟨0, 0⟩, 2)

def sumOf (l : List Frac) : Frac × Int :=
  if 1000 < l.length then (⟨0, 0⟩, 2) else if (l.any fun f => !validF f) = true then (⟨0, 0⟩, 1) else sumGo ⟨0, 1⟩ l

theorem normN_val (num den : Int) (hd : 0 < den) : (normN num den).num * den = num * (normN num den).den ∧ 1 ≤ (normN num den).den := by
  have hg : 0 < Int.gcd num den := gcd_pos_of_den (by omega)
  have hD : normD num den = (Int.gcd num den : Int) := by unfold normD; rw [if_neg (by omega)]
  unfold normN
  rw [hD]
  obtain ⟨x, hx⟩ := Int.gcd_dvd_left num den
  obtain ⟨y, hy⟩ := Int.gcd_dvd_right num den
  have hg' : (Int.gcd num den : Int) ≠ 0 := by omega
  have hgp : (0 : Int) < (Int.gcd num den : Int) := by omega
  dsimp only
  have e1 : num.tdiv (Int.gcd num den : Int) = x := by
    conv => lhs; arg 1; rw [hx]
    exact Int.mul_tdiv_cancel_left x hg'
  have e2 : den.tdiv (Int.gcd num den : Int) = y := by
    conv => lhs; arg 1; rw [hy]
    exact Int.mul_tdiv_cancel_left y hg'
  rw [e1, e2]
  generalize (Int.gcd num den : Int) = g at *
  constructor
  · rw [hx, hy]
    rw [← Int.mul_assoc, Int.mul_comm x g]
  · by_cases h : 1 ≤ y
    · exact h
    · exfalso
      have : g * y ≤ 0 := Int.mul_nonpos_of_nonneg_of_nonpos (by omega) (by omega)
      omega

theorem frOk_step {acc f : Frac} (ha : frOk acc) (hf : frOk f) (h : normOk (acc.num * f.den + f.num * acc.den) (acc.den * f.den) = true) : frOk (sumStep acc f) := by
  have hd : 0 < acc.den * f.den := Int.mul_pos (by have := ha.2.2.1; omega) (by have := hf.2.2.1; omega)
  have h1 := (normN_val (acc.num * f.den + f.num * acc.den) (acc.den * f.den) hd).2
  unfold normOk at h
  rw [Bool.and_eq_true, inn_iff, decide_eq_true_eq] at h
  exact ⟨h.1.1, h.1.2, h1, h.2⟩

theorem validF_ok {f : Frac} (h : validF f = true) : frOk f := by
  unfold validF at h
  simp only [Bool.and_eq_true, inn_iff] at h
  exact ⟨h.1.2.1, h.1.2.2, h.1.1.1, h.1.1.2⟩

/-- Either no step of the sum is out of range, or there is a first one that is. -/
theorem sumGo_cases (l : List Frac) (hv : ∀ f ∈ l, frOk f) :
    (sumsOk l ∧ sumGo ⟨0, 1⟩ l = (sumFr l, 0) ∧ frOk (sumFr l)) ∨
    ∃ k f, l[k]? = some f ∧ sumsOk (l.take k) ∧ frOk (sumFr (l.take k)) ∧ normOk ((sumFr (l.take k)).num * f.den + f.num * (sumFr (l.take k)).den) ((sumFr (l.take k)).den * f.den) = false ∧ sumGo ⟨0, 1⟩ l = (⟨0, 0⟩, 2) := by
  have key : ∀ j, j ≤ l.length → (sumsOk (l.take j) ∧ sumGo ⟨0, 1⟩ l = sumGo (sumFr (l.take j)) (l.drop j) ∧ frOk (sumFr (l.take j))) ∨
      ∃ k f, l[k]? = some f ∧ sumsOk (l.take k) ∧ frOk (sumFr (l.take k)) ∧ normOk ((sumFr (l.take k)).num * f.den + f.num * (sumFr (l.take k)).den) ((sumFr (l.take k)).den * f.den) = false ∧ sumGo ⟨0, 1⟩ l = (⟨0, 0⟩, 2) := by
    intro j
    induction j with
    | zero =>
      intro _
      left
      refine ⟨fun k f h => by simp at h, rfl, ?_⟩
      show frOk ⟨0, 1⟩
      unfold frOk; dsimp only; omega
    | succ j ih =>
      intro hj
      rcases ih (by omega) with ⟨h1, h2, h3⟩ | h
      · have hx : l[j]? = some l[j] := by simp
        have hf := hv l[j] (List.getElem_mem _)
        have hdr : l.drop j = l[j] :: l.drop (j + 1) := List.drop_eq_getElem_cons (by omega)
        rw [hdr, sumGo] at h2
        by_cases hok : normOk ((sumFr (l.take j)).num * l[j].den + l[j].num * (sumFr (l.take j)).den) ((sumFr (l.take j)).den * l[j].den) = true
        · rw [if_pos hok] at h2
          left
          have htk : sumFr (l.take (j + 1)) = sumStep (sumFr (l.take j)) l[j] := by
            unfold sumFr
            rw [List.take_succ_eq_append_getElem (by omega), List.foldl_append]; rfl
          rw [htk]
          refine ⟨fun k f hk => ?_, h2, frOk_step h3 hf hok⟩
          have hkl := (List.getElem?_eq_some_iff.1 hk).1
          rw [List.length_take] at hkl
          rw [List.getElem?_take_of_lt (by omega)] at hk
          rw [List.take_take, Nat.min_eq_left (by omega)]
          by_cases e : k = j
          · subst e
            rw [hx] at hk
            cases hk
            exact ⟨hf, h3, hok⟩
          · have := h1 k f (by rw [List.getElem?_take_of_lt (by omega)]; exact hk)
            rw [List.take_take, Nat.min_eq_left (by omega)] at this
            exact this
        · rw [if_neg hok] at h2
          right
          exact ⟨j, l[j], hx, h1, h3, by simpa using hok, h2⟩
      · exact Or.inr h
  rcases key l.length (Nat.le_refl _) with ⟨h1, h2, h3⟩ | h
  · left
    rw [List.take_length] at h1 h2 h3
    rw [List.drop_length] at h2
    exact ⟨h1, h2, h3⟩
  · exact Or.inr h

/-! ### Split -/
def splitFine (total : Int) (l : List Frac) : Bool := inn total 0 1000000000 && l.all fun f => validF f && decide (0 ≤ f.num) && decide (f.num ≤ f.den)
def baseF (total : Int) (f : Frac) : Int := (total * f.num).tdiv f.den
def baseSum (total : Int) : List Frac → Int
  | [] => 0
  | f :: r => baseF total f + baseSum total r
def cutN (total : Int) (f : Frac) : Int := total * f.num % f.den
def cmpP (total : Int) (l : List Frac) (i j : Nat) : Int :=
  Lib.compareInt (cutN total (l.getD j ⟨0, 1⟩) * (l.getD i ⟨0, 1⟩).den) (cutN total (l.getD i ⟨0, 1⟩) * (l.getD j ⟨0, 1⟩).den)
def splitOrder (total : Int) (l : List Frac) : Array Nat := stableS (ltC (cmpP total l)) (List.range l.length).toArray
def incr : List Int → List Nat → List Int
  | l, [] => l
  | l, i :: r => incr (l.set i (l.getD i 0 + 1)) r
def splitLeft (total : Int) (l : List Frac) : Int := (total * (sumFr l).num).tdiv (sumFr l).den - baseSum total l
def splitOf (total : Int) (l : List Frac) : List Int × Int :=
  if 41 < l.length then ([], 2) else if splitFine total l = false then ([], 1) else if (sumOf l).2 ≠ 0 then ([], (sumOf l).2) else if (sumOf l).1.den < (sumOf l).1.num then ([], 51)
  else (incr (l.map (baseF total)) ((splitOrder total l).toList.take (splitLeft total l).toNat), 0)

theorem baseSum_append (total : Int) (a b : List Frac) : baseSum total (a ++ b) = baseSum total a + baseSum total b := by
  induction a with
  | nil => rw [List.nil_append, baseSum]; omega
  | cons x r ih => rw [List.cons_append, baseSum, baseSum, ih]; omega

theorem baseF_bd {total : Int} {f : Frac} (h0 : 0 ≤ total) (hf : frOk f) (hn : 0 ≤ f.num) : 0 ≤ baseF total f ∧ baseF total f * f.den ≤ total * f.num ∧ total * f.num ≤ (baseF total f + 1) * f.den := by
  have h1 : 0 ≤ total * f.num := Int.mul_nonneg h0 hn
  have hd : 0 < f.den := by have := hf.2.2.1; omega
  unfold baseF
  rw [Int.tdiv_eq_ediv_of_nonneg h1]
  refine ⟨Int.ediv_nonneg h1 (by omega), Int.ediv_mul_le _ (by omega), ?_⟩
  have := Int.lt_ediv_add_one_mul_self (total * f.num) hd
  omega

theorem baseF_le {total : Int} {f : Frac} (h0 : 0 ≤ total) (hf : frOk f) (hn : 0 ≤ f.num) (hd : f.num ≤ f.den) : baseF total f ≤ total := by
  obtain ⟨_, h1, _⟩ := baseF_bd h0 hf hn
  have h2 : total * f.num ≤ total * f.den := Int.mul_le_mul_of_nonneg_left hd h0
  exact Int.le_of_mul_le_mul_right (Int.le_trans h1 h2) (by have := hf.2.2.1; omega)

theorem split_inv {total : Int} (h0 : 0 ≤ total) (l : List Frac) (hf : ∀ f ∈ l, frOk f ∧ 0 ≤ f.num) (_hs : sumsOk l) : ∀ k, k ≤ l.length →
    baseSum total (l.take k) * (sumFr (l.take k)).den ≤ total * (sumFr (l.take k)).num ∧ total * (sumFr (l.take k)).num ≤ (baseSum total (l.take k) + k) * (sumFr (l.take k)).den ∧ 1 ≤ (sumFr (l.take k)).den ∧ 0 ≤ (sumFr (l.take k)).num := by
  intro k
  induction k with
  | zero =>
    intro _
    show baseSum total [] * 1 ≤ total * 0 ∧ total * 0 ≤ (baseSum total [] + (0 : Nat)) * 1 ∧ (1 : Int) ≤ 1 ∧ (0 : Int) ≤ 0
    simp [baseSum]
  | succ k ih =>
    intro hk
    obtain ⟨i1, i2, i3, i4⟩ := ih (by omega)
    have hx : l[k]? = some l[k] := by simp
    obtain ⟨f1, f2⟩ := hf l[k] (List.getElem_mem _)
    obtain ⟨b1, b2, b3⟩ := baseF_bd h0 f1 f2
    have htk : l.take (k + 1) = l.take k ++ [l[k]] := List.take_succ_eq_append_getElem (by omega)
    have hsf : sumFr (l.take (k + 1)) = sumStep (sumFr (l.take k)) l[k] := by
      unfold sumFr; rw [htk, List.foldl_append]; rfl
    have hbs : baseSum total (l.take (k + 1)) = baseSum total (l.take k) + baseF total l[k] := by
      rw [htk, baseSum_append]; simp [baseSum]
    rw [hsf, hbs]
    clear hsf hbs htk hx
    generalize l[k] = f at *
    generalize sumFr (l.take k) = a at *
    generalize baseSum total (l.take k) = S at *
    generalize baseF total f = b at *
    have hfd : 1 ≤ f.den := f1.2.2.1
    have hD : 0 < a.den * f.den := Int.mul_pos (by omega) (by omega)
    obtain ⟨n1, n2⟩ := normN_val (a.num * f.den + f.num * a.den) (a.den * f.den) hD
    have e : sumStep a f = normN (a.num * f.den + f.num * a.den) (a.den * f.den) := rfl
    rw [← e] at n1 n2
    generalize sumStep a f = c at *
    clear e
    have c1 : (S * a.den) * f.den ≤ (total * a.num) * f.den := Int.mul_le_mul_of_nonneg_right i1 (by omega)
    have c2 : (b * f.den) * a.den ≤ (total * f.num) * a.den := Int.mul_le_mul_of_nonneg_right b2 (by omega)
    have c3 : (total * a.num) * f.den ≤ ((S + k) * a.den) * f.den := Int.mul_le_mul_of_nonneg_right i2 (by omega)
    have c4 : (total * f.num) * a.den ≤ ((b + 1) * f.den) * a.den := Int.mul_le_mul_of_nonneg_right b3 (by omega)
    have s1 : (S * a.den) * f.den = S * (a.den * f.den) := Int.mul_assoc _ _ _
    have s2 : (b * f.den) * a.den = b * (a.den * f.den) := by rw [Int.mul_assoc, Int.mul_comm f.den]
    have s3 : ((S + k) * a.den) * f.den = (S + k) * (a.den * f.den) := Int.mul_assoc _ _ _
    have s4 : ((b + 1) * f.den) * a.den = (b + 1) * (a.den * f.den) := by rw [Int.mul_assoc, Int.mul_comm f.den]
    have s5 : total * (a.num * f.den + f.num * a.den) = (total * a.num) * f.den + (total * f.num) * a.den := by rw [Int.mul_add, ← Int.mul_assoc, ← Int.mul_assoc]
    generalize a.den * f.den = D at *
    have t1 : (S + b) * D ≤ total * (a.num * f.den + f.num * a.den) := by rw [s5, Int.add_mul]; omega
    have t2 : total * (a.num * f.den + f.num * a.den) ≤ (S + b + (k + 1 : Nat)) * D := by
      have e : (S + b + (k + 1 : Nat)) * D = (S + k) * D + (b + 1) * D := by rw [← Int.add_mul]; congr 1; omega
      rw [s5, e]; omega
    have hN : 0 ≤ a.num * f.den + f.num * a.den := Int.add_nonneg (Int.mul_nonneg i4 (by omega)) (Int.mul_nonneg f2 (by omega))
    generalize a.num * f.den + f.num * a.den = N at *
    have u1 : ((S + b) * c.den) * D ≤ (total * c.num) * D := by
      have e1 : ((S + b) * c.den) * D = ((S + b) * D) * c.den := by rw [Int.mul_assoc, Int.mul_comm c.den, ← Int.mul_assoc]
      have e2 : (total * c.num) * D = (total * N) * c.den := by rw [Int.mul_assoc, n1, ← Int.mul_assoc]
      rw [e1, e2]
      exact Int.mul_le_mul_of_nonneg_right t1 (by omega)
    have u2 : (total * c.num) * D ≤ ((S + b + (k + 1 : Nat)) * c.den) * D := by
      have e1 : ((S + b + (k + 1 : Nat)) * c.den) * D = ((S + b + (k + 1 : Nat)) * D) * c.den := by rw [Int.mul_assoc, Int.mul_comm c.den, ← Int.mul_assoc]
      have e2 : (total * c.num) * D = (total * N) * c.den := by rw [Int.mul_assoc, n1, ← Int.mul_assoc]
      rw [e1, e2]
      exact Int.mul_le_mul_of_nonneg_right t2 (by omega)
    refine ⟨Int.le_of_mul_le_mul_right u1 hD, Int.le_of_mul_le_mul_right u2 hD, n2, ?_⟩
    have u3 : 0 ≤ c.num * D := by rw [n1]; exact Int.mul_nonneg hN (by omega)
    by_cases h : 0 ≤ c.num
    · exact h
    · exfalso
      have := Int.mul_neg_of_neg_of_pos (show c.num < 0 by omega) hD
      omega

theorem fine_all {total : Int} {l : List Frac} (h : splitFine total l = true) : 0 ≤ total ∧ total ≤ 1000000000 ∧ ∀ f ∈ l, validF f = true ∧ frOk f ∧ 0 ≤ f.num ∧ f.num ≤ f.den := by
  unfold splitFine at h
  rw [Bool.and_eq_true, inn_iff, List.all_eq_true] at h
  refine ⟨h.1.1, h.1.2, fun f hf => ?_⟩
  have := h.2 f hf
  rw [Bool.and_eq_true, Bool.and_eq_true, decide_eq_true_eq, decide_eq_true_eq] at this
  exact ⟨this.1.1, validF_ok this.1.1, this.1.2, this.2⟩

theorem splitLeft_bd {total : Int} {l : List Frac} (h : splitFine total l = true) (hs : sumsOk l) : 0 ≤ splitLeft total l ∧ splitLeft total l ≤ l.length ∧ 1 ≤ (sumFr l).den ∧ 0 ≤ (sumFr l).num ∧ 0 ≤ baseSum total l := by
  obtain ⟨h1, h2, h3⟩ := fine_all h
  have hi := split_inv h1 l (fun f hf => ⟨(h3 f hf).2.1, (h3 f hf).2.2.1⟩) hs l.length (Nat.le_refl _)
  rw [List.take_length] at hi
  obtain ⟨i1, i2, i3, i4⟩ := hi
  have hn : 0 ≤ total * (sumFr l).num := Int.mul_nonneg h1 i4
  have hb : 0 ≤ baseSum total l := by
    clear i1 i2 i3 i4 hn hs h
    induction l with
    | nil => exact Int.le_refl _
    | cons f r ih =>
      have a1 := (h3 f List.mem_cons_self)
      have a2 := (baseF_bd h1 a1.2.1 a1.2.2.1).1
      have a3 := ih (fun g hg => h3 g (List.mem_cons_of_mem _ hg))
      rw [baseSum]; omega
  unfold splitLeft
  rw [Int.tdiv_eq_ediv_of_nonneg hn]
  have j1 : baseSum total l ≤ total * (sumFr l).num / (sumFr l).den := (Int.le_ediv_iff_mul_le (by omega)).2 i1
  have j2 : total * (sumFr l).num / (sumFr l).den ≤ baseSum total l + l.length := by
    have := Int.ediv_le_ediv (show 0 < (sumFr l).den by omega) i2
    rw [Int.mul_ediv_cancel _ (by omega)] at this
    exact this
  exact ⟨by omega, by omega, i3, i4, hb⟩

theorem baseSum_bd {total : Int} (h0 : 0 ≤ total) (h1 : total ≤ 1000000000) (l : List Frac) (h : ∀ f ∈ l, frOk f ∧ 0 ≤ f.num ∧ f.num ≤ f.den) : 0 ≤ baseSum total l ∧ baseSum total l ≤ 1000000000 * l.length := by
  induction l with
  | nil => simp [baseSum]
  | cons f r ih =>
    obtain ⟨a1, a2, a3⟩ := h f List.mem_cons_self
    have b1 := (baseF_bd h0 a1 a2).1
    have b2 := baseF_le h0 a1 a2 a3
    have b3 := ih (fun g hg => h g (List.mem_cons_of_mem _ hg))
    rw [baseSum, List.length_cons]
    omega

theorem incr_length (l : List Int) (is : List Nat) : (incr l is).length = l.length := by
  induction is generalizing l with
  | nil => rfl
  | cons i r ih => rw [incr, ih, List.length_set]

theorem incr_snoc (l : List Int) (is : List Nat) (i : Nat) : incr l (is ++ [i]) = (incr l is).set i ((incr l is).getD i 0 + 1) := by
  induction is generalizing l with
  | nil => rfl
  | cons j r ih => rw [List.cons_append, incr, incr, ih]

theorem incr_bound (l : List Int) (is : List Nat) (M : Int) (h : ∀ v ∈ l, 0 ≤ v ∧ v ≤ M) (hM : 0 ≤ M) : ∀ v ∈ incr l is, 0 ≤ v ∧ v ≤ M + is.length := by
  induction is generalizing l M with
  | nil => intro v hv; have := h v hv; simp; omega
  | cons i r ih =>
    intro v hv
    have hg : 0 ≤ l.getD i 0 ∧ l.getD i 0 ≤ M := by
      by_cases hi : i < l.length
      · have := h l[i] (List.getElem_mem hi)
        simpa [List.getD, hi] using this
      · simp [List.getD, hi]; omega
    have h2 : ∀ v ∈ l.set i (l.getD i 0 + 1), 0 ≤ v ∧ v ≤ M + 1 := fun v hv => by
      rcases List.mem_or_eq_of_mem_set hv with h' | h'
      · have := h v h'; omega
      · omega
    have := ih (l.set i (l.getD i 0 + 1)) (M + 1) h2 (by omega) v hv
    rw [List.length_cons]
    omega

end Lg

/-
  Plain data and plain functions of layer 5 (claim): deeds, shares, titles.
-/
namespace Lg

structure Deed where
  id : Int
  known : Int
  hour : Int
  kind : Int
  loss : Int
  pack : Int
  from_ : Int
  to_ : Int
  share : Frac
  of_ : Int
  deriving DecidableEq, Inhabited

def zeroDeed : Deed := ⟨0, 0, 0, 0, 0, 0, 0, 0, ⟨0, 0⟩, 0⟩

/-- The package and the giver of a deed. -/
def packOk (x : Deed) : Bool := inn x.loss 1 20 && inn x.pack 1 200 && inn x.from_ 1 40
def movesD (k : Int) : Bool := decide (k = 1) || decide (k = 2) || decide (k = 3)
/-- What a kind asks of its own fields. -/
def fineD (x : Deed) : Bool :=
  if x.kind = 1 ∨ x.kind = 2 then packOk x && inn x.to_ 1 40 && !decide (x.to_ = x.from_) && validF x.share && decide (0 < x.share.num) && decide (x.share.num ≤ x.share.den)
  else if x.kind = 3 then packOk x && inn x.to_ 0 40 && !decide (x.to_ = x.from_)
  else if x.kind = 4 then packOk x
  else if x.kind = 5 ∨ x.kind = 6 then inn x.of_ 1 1000000 && (decide (x.kind = 5) || decide (x.hour = 0))
  else false
/-- What is left of a deed once the fields of its kind are taken away. -/
def restD (x : Deed) : Deed :=
  if x.kind = 1 ∨ x.kind = 2 then { zeroDeed with of_ := x.of_ }
  else if x.kind = 3 then { zeroDeed with share := x.share, of_ := x.of_ }
  else if x.kind = 4 then { zeroDeed with to_ := x.to_, share := x.share, of_ := x.of_ }
  else if x.kind = 5 ∨ x.kind = 6 then { zeroDeed with loss := x.loss, pack := x.pack, from_ := x.from_, to_ := x.to_, share := x.share }
  else { zeroDeed with loss := x.loss, pack := x.pack, from_ := x.from_, to_ := x.to_, share := x.share, of_ := x.of_ }
def formedD (x : Deed) : Bool := inn x.id 1 1000000 && inn x.known 0 1000000 && inn x.hour 0 1000000 && fineD x && decide (restD x = zeroDeed)

/-- Whether a deed names another one as it may. -/
def namedD (x y : Deed) : Bool := if x.kind = 5 then decide (y.id = x.of_) && decide (y.kind = 4) else decide (y.id = x.of_) && !decide (y.kind = 6)
def lateD (l : List Deed) (x : Deed) : Bool := match l.getLast? with | some y => decide (x.known < y.known) | none => false
/-- Why a deed is refused behind others. -/
def followsD (l : List Deed) (x : Deed) : Int :=
  if 300 ≤ l.length then 2 else if formedD x = false then 1 else if l.any (fun y => decide (y.id = x.id)) = true then 6
  else if lateD l x = true then 7 else if 0 < x.of_ ∧ l.any (namedD x) = false then 5
  else if x.kind = 6 ∧ l.any (fun y => decide (y.kind = 6) && decide (y.of_ = x.of_)) = true then 6 else 0
def checkDeeds (l : List Deed) : Int × Int := chkFrom followsD [] l
def appendDeed (l : List Deed) (x : Deed) : List Deed × Int :=
  if (checkDeeds l).2 = 0 then (if followsD l x = 0 then (l ++ [x], 0) else ([], followsD l x)) else ([], (checkDeeds l).2)

def voidsD (x : Deed) (known : Int) (v : Deed) : Bool := decide (v.kind = 6) && decide (v.of_ = x.id) && decide (v.known ≤ known)
def countsD (l : List Deed) (known : Int) (x : Deed) : Bool := !decide (x.kind = 6) && decide (x.known ≤ known) && !(l.any (voidsD x known))
/-- The deeds that count, as they are listed. -/
def cntD (l : List Deed) (known : Int) : List Deed := l.filter (countsD l known)

def insH (l : List Deed) (x : Deed) : List Deed :=
  match l with
  | [] => [x]
  | y :: r => if x.hour < y.hour then x :: y :: r else y :: insH r x
/-- By their hours; those of one hour stay as they are. -/
def byHourD (l : List Deed) : List Deed := l.foldl insH []

/-- The deeds of a package, with the withdrawals of its claims. -/
def ofStep (loss pack : Int) (st : List Int × List Deed) (x : Deed) : List Int × List Deed :=
  let own := decide (x.loss = loss) && decide (x.pack = pack)
  let cl := if own && decide (x.kind = 4) then st.1 ++ [x.id] else st.1
  (cl, if own || (decide (x.kind = 5) && cl.contains x.of_) then st.2 ++ [x] else st.2)
def ofPack (l : List Deed) (loss pack known : Int) : List Deed := ((cntD l known).foldl (ofStep loss pack) ([], [])).2

def insI (l : List Int) (x : Int) : List Int :=
  match l with
  | [] => [x]
  | y :: r => if x < y then x :: y :: r else y :: insI r x
/-- Ascending. -/
def sortI (l : List Int) : List Int := l.foldl insI []

theorem insI_sorted {l : List Int} (h : l.Pairwise (· ≤ ·)) (x : Int) : (insI l x).Pairwise (· ≤ ·) ∧ (insI l x).Perm (x :: l) := by
  induction l with
  | nil => exact ⟨List.pairwise_singleton _ _, List.Perm.refl _⟩
  | cons y r ih =>
    obtain ⟨h1, h2⟩ := ih (List.pairwise_cons.1 h).2
    unfold insI
    split
    · refine ⟨List.pairwise_cons.2 ⟨fun z hz => ?_, h⟩, List.Perm.refl _⟩
      rcases List.mem_cons.1 hz with rfl | hz
      · omega
      · have := (List.pairwise_cons.1 h).1 z hz; omega
    · refine ⟨List.pairwise_cons.2 ⟨fun z hz => ?_, h1⟩, (List.Perm.cons y h2).trans (List.Perm.swap x y r)⟩
      rcases List.mem_cons.1 (h2.mem_iff.1 hz) with rfl | hz
      · omega
      · exact (List.pairwise_cons.1 h).1 z hz

theorem sortI_acc (l : List Int) : ∀ acc : List Int, acc.Pairwise (· ≤ ·) → (l.foldl insI acc).Pairwise (· ≤ ·) ∧ (l.foldl insI acc).Perm (l ++ acc) := by
  induction l with
  | nil => exact fun acc h => ⟨h, List.Perm.refl _⟩
  | cons x l ih =>
    intro acc h
    obtain ⟨h1, h2⟩ := insI_sorted h x
    obtain ⟨h3, h4⟩ := ih _ h1
    exact ⟨h3, h4.trans ((List.Perm.append_left l h2).trans List.perm_middle)⟩

theorem sortI_merge (l : List Int) : l.mergeSort (fun x y => decide (x ≤ y)) = sortI l := by
  obtain ⟨h1, h2⟩ := sortI_acc l [] List.Pairwise.nil
  rw [List.append_nil] at h2
  have h3 : (l.mergeSort fun x y => decide (x ≤ y)).Pairwise (· ≤ ·) := by
    have := List.pairwise_mergeSort (le := fun x y : Int => decide (x ≤ y)) (by intro a b c; simp; omega) (by intro a b; simp; omega) l
    simpa using this
  have h4 := List.mergeSort_perm l (fun x y => decide (x ≤ y))
  exact List.Perm.eq_of_pairwise (fun a b _ _ h1 h2 => Int.le_antisymm h1 h2) h3 h1 (h4.trans h2.symm)

def goneD (x : Deed) (hour : Int) (v : Deed) : Bool := decide (v.kind = 5) && decide (v.of_ = x.id) && decide (v.hour ≤ hour)
def claimsD (l : List Deed) (hour : Int) (x : Deed) : Bool := decide (x.kind = 4) && decide (x.hour ≤ hour) && !(l.any (goneD x hour))
/-- Who claims by an hour, ascending, each once. -/
def claimedD (l : List Deed) (hour : Int) : List Int := Go.Lib.compact (sortI ((l.filter (claimsD l hour)).map Deed.from_))

/-- A sum, where it is in range. -/
def plusO (a b : Frac) : Option Frac :=
  if normOk (a.num * b.den + b.num * a.den) (a.den * b.den) = true then some (normN (a.num * b.den + b.num * a.den) (a.den * b.den)) else none
def negF (b : Frac) : Frac := ⟨-b.num, b.den⟩
def mulC (a b : Frac) : Int := max 1 (Int.gcd a.num b.den)
/-- A product, where it is in range. -/
def timesO (a b : Frac) : Option Frac :=
  let m := a.num.tdiv (mulC a b); let n := b.num.tdiv (mulC b a)
  let den := a.den.tdiv (mulC b a) * b.den.tdiv (mulC a b)
  if m ≠ 0 ∧ Int.tdiv 1000000000000 (max m (-m)) < max n (-n) then none
  else if normOk (m * n) den = true then some (normN (m * n) den) else none

def fr (s : List Frac) (p : Int) : Frac := s.getD p.toNat ⟨0, 1⟩
def frSet (s : List Frac) (p : Int) (f : Frac) : List Frac := s.set p.toNat f
/-- A part of what a party has goes to another one. -/
def takeD (s : List Frac) (x : Deed) : Option (List Frac) :=
  (timesO x.share (fr s x.from_)).bind fun part => (plusO (fr s x.from_) (negF part)).bind fun a => (plusO (fr s x.to_) part).bind fun b => some (frSet (frSet s x.from_ a) x.to_ b)
def leaveD (s : List Frac) (x : Deed) : Option (List Frac) := (plusO (fr s x.to_) (fr s x.from_)).bind fun b => some (frSet (frSet s x.from_ ⟨0, 1⟩) x.to_ b)
def moveD (s : List Frac) (x : Deed) : Option (List Frac) := if x.kind = 3 then leaveD s x else takeD s x
/-- What a deed that moves shares makes of them; none: it is idle. -/
def doD (s : List Frac) (x : Deed) : Option (List Frac) := if (fr s x.from_).num = 0 then none else moveD s x
/-- What those have who do not claim goes to the crown. -/
def lapseStep (claims : List Int) (s : Option (List Frac)) (p : Nat) : Option (List Frac) :=
  s.bind fun s => if claims.contains (p : Int) then some s else (plusO (fr s 0) (fr s p)).bind fun t => some (frSet (frSet s 0 t) p ⟨0, 1⟩)
def lapseD (claims : List Int) (s : List Frac) : Option (List Frac) := (List.range' 1 40).foldl (lapseStep claims) (some s)

def farD : Deed := { zeroDeed with hour := 9223372036854775807 }
structure Run where
  s : List Frac
  idle : List Int
  lapsed : Bool
  deriving DecidableEq
/-- One deed of a package, or the end of all. -/
def doneStep (claims : List Int) (deadline hour : Int) (r : Option Run) (x : Deed) : Option Run :=
  r.bind fun r => (if r.lapsed = false ∧ deadline < x.hour then (lapseD claims r.s).map fun s => ({ r with s := s, lapsed := true } : Run) else some r).map fun r =>
    if movesD x.kind = true ∧ x.hour ≤ hour then
      match doD r.s x with
      | some s => { r with s := s }
      | none => { r with idle := r.idle ++ [x.id] }
    else r
def begunD (owner : Int) : List Frac := frSet (List.replicate 41 ⟨0, 1⟩) owner ⟨1, 1⟩
def doneD (l : List Deed) (owner deadline hour : Int) : Option Run :=
  (byHourD l ++ [farD]).foldl (doneStep (claimedD l deadline) deadline hour) (some ⟨begunD owner, [], decide (deadline < 0) || decide (hour ≤ deadline)⟩)

def rightD (loss pack owner deadline party : Int) : Int :=
  if (inn loss 1 20 && inn pack 1 200 && inn owner 1 40 && decide (-1 ≤ deadline) && inn party 0 40) = true then 0 else 1
/-- The error of a question about a package. -/
def askedE (l : List Deed) (loss pack owner deadline party : Int) : Int := if (checkDeeds l).2 = 0 then rightD loss pack owner deadline party else (checkDeeds l).2
def titlesD (s : List Frac) : List Title := (List.range 41).filterMap fun i : Nat => if (fr s (i : Int)).num = 0 then none else some ⟨(i : Int), fr s (i : Int)⟩

def titlesOf (l : List Deed) (loss pack owner known hour deadline : Int) : List Title × Int :=
  if askedE l loss pack owner deadline 0 = 0 then
    match doneD (ofPack l loss pack known) owner deadline hour with
    | some r => (titlesD r.s, 0)
    | none => ([], 2)
  else ([], askedE l loss pack owner deadline 0)
def idleOf (l : List Deed) (loss pack owner known deadline : Int) : List Int × Int :=
  if askedE l loss pack owner deadline 0 = 0 then
    match doneD (ofPack l loss pack known) owner deadline 1000001 with
    | some r => (sortI r.idle, 0)
    | none => ([], 2)
  else ([], askedE l loss pack owner deadline 0)
def claimedOf (l : List Deed) (loss pack known hour : Int) : List Int :=
  if askedE l loss pack 1 (-1) 0 = 0 then claimedD (ofPack l loss pack known) hour else []
def possibleOf (l : List Deed) (x : Deed) (owner deadline : Int) : Int :=
  if (appendDeed l x).2 ≠ 0 then (appendDeed l x).2
  else if movesD x.kind = false then rightD 1 1 owner deadline 0
  else if (idleOf (l ++ [x]) x.loss x.pack owner x.known deadline).2 ≠ 0 then (idleOf (l ++ [x]) x.loss x.pack owner x.known deadline).2
  else if (idleOf (l ++ [x]) x.loss x.pack owner x.known deadline).1.contains x.id then 50 else 0
def onlyD (l : List Deed) (ids : List Int) : List Deed := l.filter fun x => ids.contains x.id
/-- The Ids that are left where each that a share does not hang on is struck, from the last one on. -/
def lineStep (own : List Deed) (owner deadline hour party : Int) (want : Frac) (out : List Int) (id : Int) : List Int :=
  match doneD (onlyD own (out.filter fun n => !decide (n = id))) owner deadline hour with
  | some r => if fr r.s party = want then out.filter fun n => !decide (n = id) else out
  | none => out
def lineageOf (l : List Deed) (loss pack owner known hour deadline party : Int) : List Int × Int :=
  if askedE l loss pack owner deadline party = 0 then
    match doneD (ofPack l loss pack known) owner deadline hour with
    | some r => (sortI (((ofPack l loss pack known).map Deed.id).reverse.foldl (lineStep (ofPack l loss pack known) owner deadline hour party (fr r.s party)) ((ofPack l loss pack known).map Deed.id)), 0)
    | none => ([], 2)
  else ([], askedE l loss pack owner deadline party)

/-- Whether lists of titles are right. -/
def titleOk (t : Title) : Bool := inn t.party 0 40 && validF t.share && decide (0 < t.share.num) && decide (t.share.num ≤ t.share.den)
def listOk : List Title → Bool
  | [] => true
  | [t] => titleOk t
  | t :: u :: r => titleOk t && decide (t.party < u.party) && listOk (u :: r)
def endsE (l : List (List Title)) : Int := if 1000 < l.length then 2 else if (l.all listOk) = true then 0 else 1
def sharesAt (l : List (List Title)) (p : Int) : List Frac := l.filterMap fun t => (t.find? fun x => decide (x.party = p)).map Title.share
def ltF (a b : Frac) : Bool := decide (a.num * b.den < b.num * a.den)
def minF (l : List Frac) : Frac := l.tail.foldl (fun m f => if ltF f m then f else m) (l.headD ⟨0, 0⟩)
def maxF (l : List Frac) : Frac := l.tail.foldl (fun m f => if ltF m f then f else m) (l.headD ⟨0, 0⟩)
def chosenD (l : List (List Title)) (often : Nat) (ch : List Frac → Frac) : List Title × Int :=
  if endsE l = 0 then ((List.range 41).filterMap fun p : Nat => if often ≤ (sharesAt l (p : Int)).length then some ⟨(p : Int), ch (sharesAt l (p : Int))⟩ else none, 0) else ([], endsE l)
def commonOf (l : List (List Title)) : List Title × Int := chosenD l (max 1 l.length) minF
def greatestOf (l : List (List Title)) : List Title × Int := chosenD l 1 maxF

/-! ### The examples -/
def dd1 : Deed := ⟨1, 0, 5, 1, 1, 3, 7, 20, ⟨1, 2⟩, 0⟩
def dd2 : Deed := ⟨2, 0, 8, 1, 1, 3, 7, 21, ⟨1, 3⟩, 0⟩
def dd3 : Deed := ⟨3, 9, 10, 2, 1, 3, 20, 22, ⟨1, 4⟩, 0⟩
def dd4 : Deed := ⟨4, 12, 12, 4, 1, 3, 7, 0, ⟨0, 0⟩, 0⟩
def dd5 : Deed := ⟨5, 12, 12, 4, 1, 3, 22, 0, ⟨0, 0⟩, 0⟩
def dd6 : Deed := ⟨6, 40, 30, 5, 0, 0, 0, 0, ⟨0, 0⟩, 5⟩
def dd7 : Deed := ⟨7, 50, 60, 3, 1, 3, 7, 0, ⟨0, 0⟩, 0⟩
def dd8 : Deed := ⟨8, 50, 70, 2, 1, 3, 9, 7, ⟨1, 1⟩, 0⟩
def sampleD : List Deed := [dd1, dd2, dd3, dd4, dd5, dd6, dd7]

theorem ex_check : checkDeeds sampleD = (0, 0) := by decide +kernel
theorem ex_of1 : ofPack sampleD 1 3 12 = [dd1, dd2, dd3, dd4, dd5] := by decide +kernel
theorem ex_of2 : ofPack sampleD 1 3 40 = [dd1, dd2, dd3, dd4, dd5, dd6] := by decide +kernel
theorem ex_titles1 : titlesOf sampleD 1 3 7 12 10 (-1) = ([⟨7, ⟨1, 3⟩⟩, ⟨20, ⟨3, 8⟩⟩, ⟨21, ⟨1, 6⟩⟩, ⟨22, ⟨1, 8⟩⟩], 0) := by decide +kernel
theorem ex_titles2 : titlesOf sampleD 1 3 7 12 21 20 = ([⟨0, ⟨13, 24⟩⟩, ⟨7, ⟨1, 3⟩⟩, ⟨22, ⟨1, 8⟩⟩], 0) := by decide +kernel
theorem ex_titles3 : titlesOf sampleD 1 3 7 40 31 30 = ([⟨0, ⟨2, 3⟩⟩, ⟨7, ⟨1, 3⟩⟩], 0) := by decide +kernel
theorem ex_lineage : lineageOf sampleD 1 3 7 12 10 (-1) 22 = ([1, 3], 0) := by decide +kernel
theorem ex_possible : possibleOf sampleD dd8 7 (-1) = 50 := by decide +kernel
theorem ex_claimed : claimedOf sampleD 1 3 40 29 = [7, 22] := by decide +kernel
theorem ex_append : appendDeed (sampleD.take 6) dd7 = (sampleD, 0) := by decide +kernel
theorem ex_common : commonOf [[⟨7, ⟨1, 3⟩⟩, ⟨20, ⟨1, 2⟩⟩], [⟨7, ⟨1, 4⟩⟩, ⟨21, ⟨3, 4⟩⟩]] = ([⟨7, ⟨1, 4⟩⟩], 0) := by decide +kernel

end Lg

/-
  Plain laws of registers of deeds: what the reference asks of a further deed is what the program asks.
-/
namespace Lg
open Go

/-- Whether what a deed names is not what it may name. -/
def badOf (k : Int) (o : Option Deed) : Bool :=
  if k = 5 then (match o with | some y => !decide (y.kind = 4) | none => true)
  else if k = 6 then (match o with | some y => decide (y.kind = 6) | none => true) else false

/-- Why the reference refuses a deed. -/
def refusedD (l : List Deed) (x : Deed) : Int :=
  if 300 ≤ l.length then 2 else if formedD x = false then 1 else if (l.find? fun y => decide (y.id = x.id)).isSome = true then 6
  else if lateD l x = true then 7
  else if badOf x.kind (l.find? fun y => decide (y.id = x.of_)) = true then 5
  else if x.kind = 6 ∧ l.any (fun v => decide (v.kind = 6) && decide (v.of_ = x.of_) && decide (v.known ≤ 1000000)) = true then 6 else 0

theorem followsD_parts {l : List Deed} {x : Deed} (h : followsD l x = 0) : l.length < 300 ∧ formedD x = true ∧ (∀ y ∈ l, y.id ≠ x.id) ∧ lateD l x = false := by
  unfold followsD at h
  split at h
  · cases h
  split at h
  · cases h
  split at h
  · cases h
  split at h
  · cases h
  rename_i h1 h2 h3 h4
  refine ⟨by omega, by simpa using h2, fun y hy e => h3 ?_, by simpa using h4⟩
  rw [List.any_eq_true]
  exact ⟨y, hy, by simpa using e⟩

def GoodD (l : List Deed) : Prop := (∀ x ∈ l, formedD x = true) ∧ l.Pairwise (fun x y => x.id ≠ y.id)

theorem GoodD.nil : GoodD [] := ⟨fun _ h => by (cases h), List.Pairwise.nil⟩

theorem GoodD.snoc {l : List Deed} {x : Deed} (h : GoodD l) (hf : followsD l x = 0) : GoodD (l ++ [x]) := by
  obtain ⟨_, h2, h3, _⟩ := followsD_parts hf
  refine ⟨fun y hy => ?_, ?_⟩
  · rcases List.mem_append.1 hy with hy | hy
    · exact h.1 y hy
    · rw [List.mem_singleton.1 hy]; exact h2
  · rw [List.pairwise_append]
    exact ⟨h.2, List.pairwise_singleton _ _, fun y hy z hz => by rw [List.mem_singleton.1 hz]; exact h3 y hy⟩

theorem good_chk (l : List Deed) : ∀ pre, GoodD pre → (chkFrom followsD pre l).2 = 0 → GoodD (pre ++ l) := by
  induction l with
  | nil => intro pre h _; rw [List.append_nil]; exact h
  | cons x r ih =>
    intro pre h hc
    rw [chkFrom] at hc
    by_cases hf : followsD pre x = 0
    · rw [if_pos hf] at hc
      have := ih _ (h.snoc hf) hc
      rw [List.append_assoc] at this
      exact this
    · rw [if_neg hf] at hc; exact absurd hc hf

theorem good_of_check {l : List Deed} (h : (checkDeeds l).2 = 0) : GoodD l := by
  have := good_chk l [] GoodD.nil h
  simpa using this

theorem find_id {l : List Deed} (hg : GoodD l) {y : Deed} (hy : y ∈ l) (n : Int) (hn : y.id = n) : l.find? (fun z => decide (z.id = n)) = some y := by
  have hp := hg.2
  clear hg
  induction l with
  | nil => cases hy
  | cons z r ih =>
    rw [List.find?_cons]
    obtain ⟨p1, p2⟩ := List.pairwise_cons.1 hp
    by_cases e : z.id = n
    · rw [decide_eq_true e]
      rcases List.mem_cons.1 hy with rfl | hy
      · rfl
      · exact absurd (e.trans hn.symm) (p1 y hy)
    · rw [decide_eq_false e]
      rcases List.mem_cons.1 hy with rfl | hy
      · exact absurd hn e
      · exact ih hy p2

theorem formed_of {x : Deed} (h : formedD x = true) : (0 < x.of_ ↔ (x.kind = 5 ∨ x.kind = 6)) ∧ x.known ≤ 1000000 := by
  unfold formedD at h
  simp only [Bool.and_eq_true, inn_iff, decide_eq_true_eq] at h
  obtain ⟨⟨⟨⟨_, h2⟩, _⟩, h4⟩, h5⟩ := h
  refine ⟨?_, h2.2⟩
  unfold fineD at h4
  unfold restD at h5
  by_cases c1 : x.kind = 1 ∨ x.kind = 2
  · rw [if_pos c1] at h5
    have := congrArg Deed.of_ h5
    simp only [zeroDeed] at this
    omega
  rw [if_neg c1] at h4 h5
  by_cases c2 : x.kind = 3
  · rw [if_pos c2] at h5
    have := congrArg Deed.of_ h5
    simp only [zeroDeed] at this
    omega
  rw [if_neg c2] at h4 h5
  by_cases c3 : x.kind = 4
  · rw [if_pos c3] at h5
    have := congrArg Deed.of_ h5
    simp only [zeroDeed] at this
    omega
  rw [if_neg c3] at h4 h5
  by_cases c4 : x.kind = 5 ∨ x.kind = 6
  · rw [if_pos c4] at h4
    simp only [Bool.and_eq_true, inn_iff] at h4
    omega
  rw [if_neg c4] at h4
  cases h4

/-- Behind a right register the reference refuses what the program refuses. -/
theorem refused_eq {l : List Deed} (hg : GoodD l) (x : Deed) : refusedD l x = followsD l x := by
  unfold refusedD followsD
  by_cases h1 : 300 ≤ l.length
  · rw [if_pos h1, if_pos h1]
  rw [if_neg h1, if_neg h1]
  by_cases h2 : formedD x = false
  · rw [if_pos h2, if_pos h2]
  rw [if_neg h2, if_neg h2]
  obtain ⟨hof, _⟩ := formed_of (x := x) (by simpa using h2)
  have e3 : (l.find? fun y => decide (y.id = x.id)).isSome = l.any (fun y => decide (y.id = x.id)) := by
    rw [Bool.eq_iff_iff, List.find?_isSome, List.any_eq_true]
  rw [e3]
  by_cases h3 : l.any (fun y => decide (y.id = x.id)) = true
  · rw [if_pos h3, if_pos h3]
  rw [if_neg h3, if_neg h3]
  by_cases h4 : lateD l x = true
  · rw [if_pos h4, if_pos h4]
  rw [if_neg h4, if_neg h4]
  have hlast : (x.kind = 6 ∧ l.any (fun v => decide (v.kind = 6) && decide (v.of_ = x.of_) && decide (v.known ≤ 1000000)) = true) ↔ (x.kind = 6 ∧ l.any (fun y => decide (y.kind = 6) && decide (y.of_ = x.of_)) = true) := by
    rw [List.any_eq_true, List.any_eq_true]
    constructor
    · rintro ⟨a, v, hv, b⟩
      rw [Bool.and_eq_true] at b
      exact ⟨a, v, hv, b.1⟩
    · rintro ⟨a, v, hv, b⟩
      refine ⟨a, v, hv, ?_⟩
      rw [b, decide_eq_true ((formed_of (hg.1 v hv)).2)]; rfl
  have hfive : badOf x.kind (l.find? fun y => decide (y.id = x.of_)) = true ↔ (0 < x.of_ ∧ l.any (namedD x) = false) := by
    rw [hof]
    cases hf : l.find? (fun y => decide (y.id = x.of_)) with
    | none =>
      rw [List.find?_eq_none] at hf
      have hn : l.any (namedD x) = false := by
        rw [List.any_eq_false]
        intro y hy
        have := hf y hy
        unfold namedD
        split <;> simp_all
      unfold badOf
      by_cases a : x.kind = 5
      · rw [if_pos a]; simp [a, hn]
      · rw [if_neg a]
        by_cases b : x.kind = 6
        · rw [if_pos b]; simp [b, hn]
        · rw [if_neg b]; simp [a, b]
    | some y =>
      have hy := List.mem_of_find?_eq_some hf
      have hyi : y.id = x.of_ := by simpa using List.find?_some hf
      have huni : ∀ z ∈ l, z.id = x.of_ → z = y := fun z hz e => by
        have := find_id hg hz _ e
        rw [hf] at this
        exact (Option.some.inj this).symm
      have hany : l.any (namedD x) = true ↔ namedD x y = true := by
        rw [List.any_eq_true]
        constructor
        · rintro ⟨z, hz, h⟩
          have : z.id = x.of_ := by
            unfold namedD at h
            split at h <;> simp_all
          rw [← huni z hz this]; exact h
        · intro h; exact ⟨y, hy, h⟩
      have hany' : l.any (namedD x) = false ↔ namedD x y = false := by
        rw [← Bool.not_eq_true, ← Bool.not_eq_true, hany]
      rw [hany']
      unfold namedD badOf
      by_cases a : x.kind = 5
      · rw [if_pos a, if_pos a]; simp [a, hyi]
      · rw [if_neg a, if_neg a]
        by_cases b : x.kind = 6
        · rw [if_pos b]; simp [b, hyi]
        · rw [if_neg b]; simp [a, b]
  by_cases h5 : 0 < x.of_ ∧ l.any (namedD x) = false
  · rw [if_pos (hfive.2 h5), if_pos h5]
  rw [if_neg (fun h => h5 (hfive.1 h)), if_neg h5]
  by_cases h6 : x.kind = 6 ∧ l.any (fun y => decide (y.kind = 6) && decide (y.of_ = x.of_)) = true
  · rw [if_pos (hlast.2 h6), if_pos h6]
  · rw [if_neg (fun h => h6 (hlast.1 h)), if_neg h6]

theorem checkR_eq (l : List Deed) : ∀ pre, GoodD pre → chkFrom refusedD pre l = chkFrom followsD pre l := by
  induction l with
  | nil => intro pre _; rfl
  | cons x r ih =>
    intro pre hg
    rw [chkFrom, chkFrom, refused_eq hg]
    by_cases h : followsD pre x = 0
    · rw [if_pos h, if_pos h]; exact ih _ (hg.snoc h)
    · rw [if_neg h, if_neg h]

end Lg
