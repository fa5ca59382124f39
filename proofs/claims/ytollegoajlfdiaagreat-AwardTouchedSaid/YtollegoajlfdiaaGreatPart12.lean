import Derived.Test.YtollegoajlfdiaaGreatPart01
import Derived.Test.YtollegoajlfdiaaGreatPart02
import Derived.Lib.Small
import Derived.Test.YtollegoajlfdiaaGreatPart11
import Derived.Test.YtollegoajlfdiaaGreatPart04
import Derived.StillTailTactics
import Derived.Deep.RegionHeld3
/-
  Plain functions: sums of fractions with their errors; how pence are split.
-/
namespace Lg
open Go

def sumGo (acc : Frac) : List Frac → Frac × Int
  | [] => (acc, 0)
  | f :: r => if normOk (acc.num * f.den + f.num * acc.den) (acc.den * f.den) = true then sumGo (sumStep acc f) r else (⟨0, 0⟩, 2)

def sumOf (l : List Frac) : Frac × Int :=
  if 1000 < l.length then (⟨0, 0⟩, 2) else if (l.any fun f => !validF f) = true then (⟨0, 0⟩, 1) else sumGo ⟨0, 1⟩ l

theorem normN_val (num den : Int) (hd : 0 < den) : (normN num den).num * den = num * (normN num den).den ∧ 1 ≤ (normN num den).den := by
  have hg : 0 < Int.gcd num den := gcd_pos_of_den (by omega)
  have hD : normD num den = (Int.gcd num den : Int) := by unfold normD; rw [if_neg (by omega)]
  unfold normN
  rw [hD]
  obtain ⟨x, hx⟩ := Int.gcd_dvd_left num den
  obtain ⟨y, hy⟩ := Int.gcd_dvd_right num den
  have hg' : (Int.gcd num den : Int) ≠ 0 := by omega
  have hgp : (0 : Int) < (Int.gcd num den : Int) := by omega
  dsimp only
  have e1 : num.tdiv (Int.gcd num den : Int) = x := by
    conv => lhs; arg 1; rw [hx]
    exact Int.mul_tdiv_cancel_left x hg'
  have e2 : den.tdiv (Int.gcd num den : Int) = y := by
    conv => lhs; arg 1; rw [hy]
    exact Int.mul_tdiv_cancel_left y hg'
  rw [e1, e2]
  generalize (Int.gcd num den : Int) = g at *
  constructor
  · rw [hx, hy]
    rw [← Int.mul_assoc, Int.mul_comm x g]
  · by_cases h : 1 ≤ y
    · exact h
    · exfalso
      have : g * y ≤ 0 := Int.mul_nonpos_of_nonneg_of_nonpos (by omega) (by omega)
      omega

theorem frOk_step {acc f : Frac} (ha : frOk acc) (hf : frOk f) (h : normOk (acc.num * f.den + f.num * acc.den) (acc.den * f.den) = true) : frOk (sumStep acc f) := by
  have hd : 0 < acc.den * f.den := Int.mul_pos (by have := ha.2.2.1; omega) (by have := hf.2.2.1; omega)
  have h1 := (normN_val (acc.num * f.den + f.num * acc.den) (acc.den * f.den) hd).2
  unfold normOk at h
  rw [Bool.and_eq_true, inn_iff, decide_eq_true_eq] at h
  exact ⟨h.1.1, h.1.2, h1, h.2⟩

theorem validF_ok {f : Frac} (h : validF f = true) : frOk f := by
  unfold validF at h
  simp only [Bool.and_eq_true, inn_iff] at h
  exact ⟨h.1.2.1, h.1.2.2, h.1.1.1, h.1.1.2⟩

/-- Either no step of the sum is out of range, or there is a first one that is. -/
theorem sumGo_cases (l : List Frac) (hv : ∀ f ∈ l, frOk f) :
    (sumsOk l ∧ sumGo ⟨0, 1⟩ l = (sumFr l, 0) ∧ frOk (sumFr l)) ∨
    ∃ k f, l[k]? = some f ∧ sumsOk (l.take k) ∧ frOk (sumFr (l.take k)) ∧ normOk ((sumFr (l.take k)).num * f.den + f.num * (sumFr (l.take k)).den) ((sumFr (l.take k)).den * f.den) = false ∧ sumGo ⟨0, 1⟩ l = (⟨0, 0⟩, 2) := by
  have key : ∀ j, j ≤ l.length → (sumsOk (l.take j) ∧ sumGo ⟨0, 1⟩ l = sumGo (sumFr (l.take j)) (l.drop j) ∧ frOk (sumFr (l.take j))) ∨
      ∃ k f, l[k]? = some f ∧ sumsOk (l.take k) ∧ frOk (sumFr (l.take k)) ∧ normOk ((sumFr (l.take k)).num * f.den + f.num * (sumFr (l.take k)).den) ((sumFr (l.take k)).den * f.den) = false ∧ sumGo ⟨0, 1⟩ l = (⟨0, 0⟩, 2) := by
    intro j
    induction j with
    | zero =>
      intro _
      left
      refine ⟨fun k f h => by simp at h, rfl, ?_⟩
      show frOk ⟨0, 1⟩
      unfold frOk; dsimp only; omega
    | succ j ih =>
      intro hj
      rcases ih (by omega) with ⟨h1, h2, h3⟩ | h
      · have hx : l[j]? = some l[j] := by simp
        have hf := hv l[j] (List.getElem_mem _)
        have hdr : l.drop j = l[j] :: l.drop (j + 1) := List.drop_eq_getElem_cons (by omega)
        rw [hdr, sumGo] at h2
        by_cases hok : normOk ((sumFr (l.take j)).num * l[j].den + l[j].num * (sumFr (l.take j)).den) ((sumFr (l.take j)).den * l[j].den) = true
        · rw [if_pos hok] at h2
          left
          have htk : sumFr (l.take (j + 1)) = sumStep (sumFr (l.take j)) l[j] := by
            unfold sumFr
            rw [List.take_succ_eq_append_getElem (by omega), List.foldl_append]; rfl
          rw [htk]
          refine ⟨fun k f hk => ?_, h2, frOk_step h3 hf hok⟩
          have hkl := (List.getElem?_eq_some_iff.1 hk).1
          rw [List.length_take] at hkl
          rw [List.getElem?_take_of_lt (by omega)] at hk
          rw [List.take_take, Nat.min_eq_left (by omega)]
          by_cases e : k = j
          · subst e
            rw [hx] at hk
            cases hk
            exact ⟨hf, h3, hok⟩
          · have := h1 k f (by rw [List.getElem?_take_of_lt (by omega)]; exact hk)
            rw [List.take_take, Nat.min_eq_left (by omega)] at this
            exact this
        · rw [if_neg hok] at h2
          right
          exact ⟨j, l[j], hx, h1, h3, by simpa using hok, h2⟩
      · exact Or.inr h
  rcases key l.length (Nat.le_refl _) with ⟨h1, h2, h3⟩ | h
  · left
    rw [List.take_length] at h1 h2 h3
    rw [List.drop_length] at h2
    exact ⟨h1, h2, h3⟩
  · exact Or.inr h

/-! ### Split -/
def splitFine (total : Int) (l : List Frac) : Bool := inn total 0 1000000000 && l.all fun f => validF f && decide (0 ≤ f.num) && decide (f.num ≤ f.den)
def baseF (total : Int) (f : Frac) : Int := (total * f.num).tdiv f.den
def baseSum (total : Int) : List Frac → Int
  | [] => 0
  | f :: r => baseF total f + baseSum total r
def cutN (total : Int) (f : Frac) : Int := total * f.num % f.den
def cmpP (total : Int) (l : List Frac) (i j : Nat) : Int :=
  Lib.compareInt (cutN total (l.getD j ⟨0, 1⟩) * (l.getD i ⟨0, 1⟩).den) (cutN total (l.getD i ⟨0, 1⟩) * (l.getD j ⟨0, 1⟩).den)
def splitOrder (total : Int) (l : List Frac) : Array Nat := stableS (ltC (cmpP total l)) (List.range l.length).toArray
def incr : List Int → List Nat → List Int
  | l, [] => l
  | l, i :: r => incr (l.set i (l.getD i 0 + 1)) r
def splitLeft (total : Int) (l : List Frac) : Int := (total * (sumFr l).num).tdiv (sumFr l).den - baseSum total l
def splitOf (total : Int) (l : List Frac) : List Int × Int :=
  if 41 < l.length then ([], 2) else if splitFine total l = false then ([], 1) else if (sumOf l).2 ≠ 0 then ([], (sumOf l).2) else if (sumOf l).1.den < (sumOf l).1.num then ([], 51)
  else (incr (l.map (baseF total)) ((splitOrder total l).toList.take (splitLeft total l).toNat), 0)

theorem baseSum_append (total : Int) (a b : List Frac) : baseSum total (a ++ b) = baseSum total a + baseSum total b := by
  induction a with
  | nil => rw [List.nil_append, baseSum]; omega
  | cons x r ih => rw [List.cons_append, baseSum, baseSum, ih]; omega

theorem baseF_bd {total : Int} {f : Frac} (h0 : 0 ≤ total) (hf : frOk f) (hn : 0 ≤ f.num) : 0 ≤ baseF total f ∧ baseF total f * f.den ≤ total * f.num ∧ total * f.num ≤ (baseF total f + 1) * f.den := by
  have h1 : 0 ≤ total * f.num := Int.mul_nonneg h0 hn
  have hd : 0 < f.den := by have := hf.2.2.1; omega
  unfold baseF
  rw [Int.tdiv_eq_ediv_of_nonneg h1]
  refine ⟨Int.ediv_nonneg h1 (by omega), Int.ediv_mul_le _ (by omega), ?_⟩
  have := Int.lt_ediv_add_one_mul_self (total * f.num) hd
  omega

theorem baseF_le {total : Int} {f : Frac} (h0 : 0 ≤ total) (hf : frOk f) (hn : 0 ≤ f.num) (hd : f.num ≤ f.den) : baseF total f ≤ total := by
  obtain ⟨_, h1, _⟩ := baseF_bd h0 hf hn
  have h2 : total * f.num ≤ total * f.den := Int.mul_le_mul_of_nonneg_left hd h0
  exact Int.le_of_mul_le_mul_right (Int.le_trans h1 h2) (by have := hf.2.2.1; omega)

theorem split_inv {total : Int} (h0 : 0 ≤ total) (l : List Frac) (hf : ∀ f ∈ l, frOk f ∧ 0 ≤ f.num) (_hs : sumsOk l) : ∀ k, k ≤ l.length →
    baseSum total (l.take k) * (sumFr (l.take k)).den ≤ total * (sumFr (l.take k)).num ∧ total * (sumFr (l.take k)).num ≤ (baseSum total (l.take k) + k) * (sumFr (l.take k)).den ∧ 1 ≤ (sumFr (l.take k)).den ∧ 0 ≤ (sumFr (l.take k)).num := by
  intro k
  induction k with
  | zero =>
    intro _
    show baseSum total [] * 1 ≤ total * 0 ∧ total * 0 ≤ (baseSum total [] + (0 : Nat)) * 1 ∧ (1 : Int) ≤ 1 ∧ (0 : Int) ≤ 0
    simp [baseSum]
  | succ k ih =>
    intro hk
    obtain ⟨i1, i2, i3, i4⟩ := ih (by omega)
    have hx : l[k]? = some l[k] := by simp
    obtain ⟨f1, f2⟩ := hf l[k] (List.getElem_mem _)
    obtain ⟨b1, b2, b3⟩ := baseF_bd h0 f1 f2
    have htk : l.take (k + 1) = l.take k ++ [l[k]] := List.take_succ_eq_append_getElem (by omega)
    have hsf : sumFr (l.take (k + 1)) = sumStep (sumFr (l.take k)) l[k] := by
      unfold sumFr; rw [htk, List.foldl_append]; rfl
    have hbs : baseSum total (l.take (k + 1)) = baseSum total (l.take k) + baseF total l[k] := by
      rw [htk, baseSum_append]; simp [baseSum]
    rw [hsf, hbs]
    clear hsf hbs htk hx
    generalize l[k] = f at *
    generalize sumFr (l.take k) = a at *
    generalize baseSum total (l.take k) = S at *
    generalize baseF total f = b at *
    have hfd : 1 ≤ f.den := f1.2.2.1
    have hD : 0 < a.den * f.den := Int.mul_pos (by omega) (by omega)
    obtain ⟨n1, n2⟩ := normN_val (a.num * f.den + f.num * a.den) (a.den * f.den) hD
    have e : sumStep a f = normN (a.num * f.den + f.num * a.den) (a.den * f.den) := rfl
    rw [← e] at n1 n2
    generalize sumStep a f = c at *
    clear e
    have c1 : (S * a.den) * f.den ≤ (total * a.num) * f.den := Int.mul_le_mul_of_nonneg_right i1 (by omega)
    have c2 : (b * f.den) * a.den ≤ (total * f.num) * a.den := Int.mul_le_mul_of_nonneg_right b2 (by omega)
    have c3 : (total * a.num) * f.den ≤ ((S + k) * a.den) * f.den := Int.mul_le_mul_of_nonneg_right i2 (by omega)
    have c4 : (total * f.num) * a.den ≤ ((b + 1) * f.den) * a.den := Int.mul_le_mul_of_nonneg_right b3 (by omega)
    have s1 : (S * a.den) * f.den = S * (a.den * f.den) := Int.mul_assoc _ _ _
    have s2 : (b * f.den) * a.den = b * (a.den * f.den) := by rw [Int.mul_assoc, Int.mul_comm f.den]
    have s3 : ((S + k) * a.den) * f.den = (S + k) * (a.den * f.den) := Int.mul_assoc _ _ _
    have s4 : ((b + 1) * f.den) * a.den = (b + 1) * (a.den * f.den) := by rw [Int.mul_assoc, Int.mul_comm f.den]
    have s5 : total * (a.num * f.den + f.num * a.den) = (total * a.num) * f.den + (total * f.num) * a.den := by rw [Int.mul_add, ← Int.mul_assoc, ← Int.mul_assoc]
    generalize a.den * f.den = D at *
    have t1 : (S + b) * D ≤ total * (a.num * f.den + f.num * a.den) := by rw [s5, Int.add_mul]; omega
    have t2 : total * (a.num * f.den + f.num * a.den) ≤ (S + b + (k + 1 : Nat)) * D := by
      have e : (S + b + (k + 1 : Nat)) * D = (S + k) * D + (b + 1) * D := by rw [← Int.add_mul]; congr 1; omega
      rw [s5, e]; omega
    have hN : 0 ≤ a.num * f.den + f.num * a.den := Int.add_nonneg (Int.mul_nonneg i4 (by omega)) (Int.mul_nonneg f2 (by omega))
    generalize a.num * f.den + f.num * a.den = N at *
    have u1 : ((S + b) * c.den) * D ≤ (total * c.num) * D := by
      have e1 : ((S + b) * c.den) * D = ((S + b) * D) * c.den := by rw [Int.mul_assoc, Int.mul_comm c.den, ← Int.mul_assoc]
      have e2 : (total * c.num) * D = (total * N) * c.den := by rw [Int.mul_assoc, n1, ← Int.mul_assoc]
      rw [e1, e2]
      exact Int.mul_le_mul_of_nonneg_right t1 (by omega)
    have u2 : (total * c.num) * D ≤ ((S + b + (k + 1 : Nat)) * c.den) * D := by
      have e1 : ((S + b + (k + 1 : Nat)) * c.den) * D = ((S + b + (k + 1 : Nat)) * D) * c.den := by rw [Int.mul_assoc, Int.mul_comm c.den, ← Int.mul_assoc]
      have e2 : (total * c.num) * D = (total * N) * c.den := by rw [Int.mul_assoc, n1, ← Int.mul_assoc]
      rw [e1, e2]
      exact Int.mul_le_mul_of_nonneg_right t2 (by omega)
    refine ⟨Int.le_of_mul_le_mul_right u1 hD, Int.le_of_mul_le_mul_right u2 hD, n2, ?_⟩
    have u3 : 0 ≤ c.num * D := by rw [n1]; exact Int.mul_nonneg hN (by omega)
    by_cases h : 0 ≤ c.num
    · exact h
    · exfalso
      have := Int.mul_neg_of_neg_of_pos (show c.num < 0 by omega) hD
      omega

theorem fine_all {total : Int} {l : List Frac} (h : splitFine total l = true) : 0 ≤ total ∧ total ≤ 1000000000 ∧ ∀ f ∈ l, validF f = true ∧ frOk f ∧ 0 ≤ f.num ∧ f.num ≤ f.den := by
  unfold splitFine at h
  rw [Bool.and_eq_true, inn_iff, List.all_eq_true] at h
  refine ⟨h.1.1, h.1.2, fun f hf => ?_⟩
  have := h.2 f hf
  rw [Bool.and_eq_true, Bool.and_eq_true, decide_eq_true_eq, decide_eq_true_eq] at this
  exact ⟨this.1.1, validF_ok this.1.1, this.1.2, this.2⟩

theorem splitLeft_bd {total : Int} {l : List Frac} (h : splitFine total l = true) (hs : sumsOk l) : 0 ≤ splitLeft total l ∧ splitLeft total l ≤ l.length ∧ 1 ≤ (sumFr l).den ∧ 0 ≤ (sumFr l).num ∧ 0 ≤ baseSum total l := by
  obtain ⟨h1, h2, h3⟩ := fine_all h
  have hi := split_inv h1 l (fun f hf => ⟨(h3 f hf).2.1, (h3 f hf).2.2.1⟩) hs l.length (Nat.le_refl _)
  rw [List.take_length] at hi
  obtain ⟨i1, i2, i3, i4⟩ := hi
  have hn : 0 ≤ total * (sumFr l).num := Int.mul_nonneg h1 i4
  have hb : 0 ≤ baseSum total l := by
    clear i1 i2 i3 i4 hn hs h
    induction l with
    | nil => exact Int.le_refl _
    | cons f r ih =>
      have a1 := (h3 f List.mem_cons_self)
      have a2 := (baseF_bd h1 a1.2.1 a1.2.2.1).1
      have a3 := ih (fun g hg => h3 g (List.mem_cons_of_mem _ hg))
      rw [baseSum]; omega
  unfold splitLeft
  rw [Int.tdiv_eq_ediv_of_nonneg hn]
  have j1 : baseSum total l ≤ total * (sumFr l).num / (sumFr l).den := (Int.le_ediv_iff_mul_le (by omega)).2 i1
  have j2 : total * (sumFr l).num / (sumFr l).den ≤ baseSum total l + l.length := by
    have := Int.ediv_le_ediv (show 0 < (sumFr l).den by omega) i2
    rw [Int.mul_ediv_cancel _ (by omega)] at this
    exact this
  exact ⟨by omega, by omega, i3, i4, hb⟩

theorem baseSum_bd {total : Int} (h0 : 0 ≤ total) (h1 : total ≤ 1000000000) (l : List Frac) (h : ∀ f ∈ l, frOk f ∧ 0 ≤ f.num ∧ f.num ≤ f.den) : 0 ≤ baseSum total l ∧ baseSum total l ≤ 1000000000 * l.length := by
  induction l with
  | nil => simp [baseSum]
  | cons f r ih =>
    obtain ⟨a1, a2, a3⟩ := h f List.mem_cons_self
    have b1 := (baseF_bd h0 a1 a2).1
    have b2 := baseF_le h0 a1 a2 a3
    have b3 := ih (fun g hg => h g (List.mem_cons_of_mem _ hg))
    rw [baseSum, List.length_cons]
    omega

theorem incr_length (l : List Int) (is : List Nat) : (incr l is).length = l.length := by
  induction is generalizing l with
  | nil => rfl
  | cons i r ih => rw [incr, ih, List.length_set]

theorem incr_snoc (l : List Int) (is : List Nat) (i : Nat) : incr l (is ++ [i]) = (incr l is).set i ((incr l is).getD i 0 + 1) := by
  induction is generalizing l with
  | nil => rfl
  | cons j r ih => rw [List.cons_append, incr, incr, ih]

theorem incr_bound (l : List Int) (is : List Nat) (M : Int) (h : ∀ v ∈ l, 0 ≤ v ∧ v ≤ M) (hM : 0 ≤ M) : ∀ v ∈ incr l is, 0 ≤ v ∧ v ≤ M + is.length := by
  induction is generalizing l M with
  | nil => intro v hv; have := h v hv; simp; omega
  | cons i r ih =>
    intro v hv
    have hg : 0 ≤ l.getD i 0 ∧ l.getD i 0 ≤ M := by
      by_cases hi : i < l.length
      · have := h l[i] (List.getElem_mem hi)
        simpa [List.getD, hi] using this
      · simp [List.getD, hi]; omega
    have h2 : ∀ v ∈ l.set i (l.getD i 0 + 1), 0 ≤ v ∧ v ≤ M + 1 := fun v hv => by
      rcases List.mem_or_eq_of_mem_set hv with h' | h'
      · have := h v h'; omega
      · omega
    have := ih (l.set i (l.getD i 0 + 1)) (M + 1) h2 (by omega) v hv
    rw [List.length_cons]
    omega

end Lg

/-
  Walks: the sum of fractions, whatever they are.
-/
namespace Go.Proofs.YtollegoajlfdiaaGreat
open Go.RowKit Lg Go.Sort Go.Shelf

set_option maxRecDepth 100000 in
set_option maxHeartbeats 800000 in
theorem plus_up (a b : Frac) (w : World) (ha : frOk a) (hb : frOk b) (hok : normOk (a.num * b.den + b.num * a.den) (a.den * b.den) = false) :
    Calls Tryz.prog 145 #[aF a, aF b] w fun e w' => e = .panicked [{ v := upV, recovered := false }] ∧ RowKit.Below w.heap.size w w' := by
  obtain ⟨a1, a2, a3, a4⟩ := ha
  obtain ⟨b1, b2, b3, b4⟩ := hb
  obtain ⟨p1, p2⟩ := mul_bound a1 a2 b3 b4
  obtain ⟨q1, q2⟩ := mul_bound b1 b2 a3 a4
  have d1 : 1 ≤ a.den * b.den := by
    calc (1 : Int) ≤ 1 * b.den := by omega
      _ ≤ a.den * b.den := Int.mul_le_mul_of_nonneg_right a3 (by omega)
  have d2 : a.den * b.den ≤ 1000000000000 := by
    calc a.den * b.den ≤ 1000000 * b.den := Int.mul_le_mul_of_nonneg_right a4 (by omega)
      _ ≤ 1000000000000 := by omega
  have hn := fun W => norm_up (a.num * b.den + b.num * a.den) (a.den * b.den) W (by omega) (by omega) (by omega) hok
  clear hok
  go_enter Tryz.func145, Tryz.ntmps145
  go_wp2_with (fail)
  refine (hn _).mono ?_
  clear hn
  rintro e w2 ⟨rfl, hB⟩
  exact ⟨rfl, rfl, ((((Below.refl _ w).alloc (Nat.le_refl _) _).alloc (by simp) _).alloc (by simp; omega) _).trans (hB.mono (by simp; omega))⟩

set_option maxRecDepth 100000 in
set_option maxHeartbeats 1600000 in
theorem sum1_up (a : Option Addr) (n cap : Nat) (xs : List Frac) (Bl Bs : Nat) (w : World) (hBl : Blk w Bl #[.slice a n cap] 97) (hBs : Blk w Bs #[.int .i64 0, .int .i64 1] 166)
    (hL : ∀ W', w.grownBy W' (some Bs) → Lst W' 2 cF a n cap xs) (q : Nat) (f : Frac) (hq : xs[q]? = some f) (hff : frOk f) (hok : sumsOk (xs.take q)) (hacc : frOk (sumFr (xs.take q)))
    (hbad : normOk ((sumFr (xs.take q)).num * f.den + f.num * (sumFr (xs.take q)).den) ((sumFr (xs.take q)).den * f.den) = false) :
    Calls Tryz.prog 144 #[.pointer (some ⟨Bl, 0, none⟩), .pointer (some ⟨Bs, 0, none⟩)] w fun e w' => e = .panicked [{ v := upV, recovered := false }] ∧ w.grownBy w' (some Bs) := by
  have hL0 := hL w (grown_refl _ _)
  have hm : cap ≤ 9223372036854775807 := by have := hL0.max; unfold maxLen at this; omega
  have hle := hL0.le
  have hqn : q < n := by rw [← hL0.len]; exact (List.getElem?_eq_some_iff.1 hq).1
  have hlen := Lib.hid hL0.len
  clear hL0
  have hne : Bl ≠ Bs := hBl.other hBs (by decide)
  have c0 := hBl.cell
  have hup := fun W => plus_up (sumFr (xs.take q)) f W hacc hff hbad
  have Hq := Lib.hid hq; clear hq hbad
  go_enter Tryz.func144, Tryz.ntmps144
  go_wp2
  go_loopw [6] (fun i wr => ∃ k : Nat, k ≤ q ∧ i = .int .i64 k ∧ Blk wr Bs #[.int .i64 (sumFr (xs.take k)).num, .int .i64 (sumFr (xs.take k)).den] 166 ∧ w.grownBy wr (some Bs)) (fun i _ => q - (intOf i).toNat)
  case atStart => exact ⟨0, Nat.zero_le _, rfl, hBs, grown_refl _ _⟩
  case round =>
    obtain ⟨k, hk, rfl, kS, hg⟩ := hrel
    have hkn : k < n := by omega
    obtain ⟨x, hx⟩ : ∃ x, xs[k]? = some x := ⟨xs[k]'(by rw [hlen.out]; exact hkn), by simp⟩
    have hLr := hL wr hg
    obtain ⟨b, off, rfl, hb, hr⟩ := hLr.at_ k x hx
    by_cases hlt : k < q
    · have hk2 : (xs.take q)[k]? = some x := by rw [List.getElem?_take_of_lt hlt]; exact hx
      obtain ⟨o1, o2, o3⟩ := hok k x hk2
      rw [List.take_take, Nat.min_eq_left (by omega)] at o2 o3
      have htk : sumFr (xs.take (k + 1)) = sumStep (sumFr (xs.take k)) x := by
        obtain ⟨h1, h2⟩ := List.getElem?_eq_some_iff.1 hx
        unfold sumFr
        rw [List.take_succ_eq_append_getElem h1, h2, List.foldl_append]; rfl
      have Htk := Lib.hid htk
      have Hx := Lib.hid hx
      clear htk hx hLr hk2 hup
      generalize sumFr (xs.take k) = acc at *
      have hp := fun W => plus_ok acc x W o2 o1 o3
      have hst : sumStep acc x = normN (acc.num * x.den + x.num * acc.den) (acc.den * x.den) := rfl
      rw [← hst] at hp
      rw [hst] at Htk
      have Hst := Lib.hid hst
      rw [← hst] at Htk
      clear hst o1 o2 o3
      generalize sumStep acc x = nx at *
      have cS := kS.cell
      have hltS := kS.lt
      go_wp2_with (first
        | (refine wpList_load_mid rfl 24 _ rfl b (off + k * 2) rfl (cF x) _ hr Tryz.underlying24 rfl (by kernel_rfl) ?_)
        | fail)
      refine (hp _).mono ?_
      clear hp cS
      rintro e w3 ⟨rfl, hB3⟩
      have kS3 := (kS.alloc (.cells #[.int .i64 x.num, .int .i64 x.den] 24)).below' hB3
      have hg3 : w.grownBy w3 (some Bs) := grown_trans hg (grown_of_below _ (((Below.refl _ wr).alloc (Nat.le_refl _) _).trans (hB3.mono (by simp))))
      have c3 := kS3.cell
      have f3 := kS3.frozen
      go_wp2_with (fail)
      go_roundw
      case rel =>
        refine ⟨k + 1, by omega, by go_num, ?_, grown_trans hg3 (grownBy_setCells w3 Bs 0 [.int .i64 nx.num, .int .i64 nx.den])⟩
        rw [Htk.out]
        have h := kS3.setCells 0 [.int .i64 nx.num, .int .i64 nx.den]
        rw [setAll_F] at h
        exact h
      case measure => simp [intOf]; omega
    · obtain rfl : k = q := by omega
      have e := Hq.out
      rw [hx] at e
      cases e
      clear hx hLr Hq
      generalize sumFr (xs.take k) = acc at *
      have cS := kS.cell
      have hltS := kS.lt
      go_wp2_with (first
        | (refine wpList_load_mid rfl 24 _ rfl b (off + k * 2) rfl (cF f) _ hr Tryz.underlying24 rfl (by kernel_rfl) ?_)
        | fail)
      refine (hup _).mono ?_
      clear hup cS
      rintro e w3 ⟨rfl, hB3⟩
      have hg3 : w.grownBy w3 (some Bs) := grown_trans hg (grown_of_below _ (((Below.refl _ wr).alloc (Nat.le_refl _) _).trans (hB3.mono (by simp))))
      exact ⟨rfl, rfl, hg3⟩

set_option maxRecDepth 100000 in
set_option maxHeartbeats 1600000 in
theorem sum_up (a : Option Addr) (n cap : Nat) (xs : List Frac) (w : World) (hL : Lst w 2 cF a n cap xs) (hn : n ≤ 1000) (hv : (xs.any fun f => !validF f) = false) (q : Nat) (f : Frac) (hq : xs[q]? = some f) (hff : frOk f) (hok : sumsOk (xs.take q)) (hacc : frOk (sumFr (xs.take q)))
    (hbad : normOk ((sumFr (xs.take q)).num * f.den + f.num * (sumFr (xs.take q)).den) ((sumFr (xs.take q)).den * f.den) = false) :
    Calls Tryz.prog 104 #[.slice a n cap] w (Gives w (.tuple #[aF ⟨0, 0⟩, .int .i64 2])) := by
  have eg : ∀ args w, (callFunc 144 args).run Tryz.prog w = .ok (.enter 144 args) w := enters_of Tryz.func144 (by kernel_rfl) rfl
  have hmf : ∀ (fn : Fn) (first cap : Array Value) (w : World), (Instr.makeFunc fn first cap).run Tryz.prog w = .ok (.func fn first cap) w := fun _ _ _ _ => rfl
  have hB1 : RowKit.Below w.heap.size w ((w.alloc (.cells #[.slice a n cap] 97)).alloc (.cells #[.int .i64 0, .int .i64 0] 24)) := ((Below.refl _ w).alloc (Nat.le_refl _) _).alloc (by simp) _
  have hva := valid_any a n cap xs ((w.alloc (.cells #[.slice a n cap] 97)).alloc (.cells #[.int .i64 0, .int .i64 0] 24)) (hL.below hB1)
  rw [hv] at hva
  clear hv
  go_enter Tryz.func104, Tryz.ntmps104
  go_wp2_with (fail)
  refine hva.mono ?_
  clear hva
  rintro e w2 ⟨rfl, hB2⟩
  have k1 : Blk w2 w.heap.size #[.slice a n cap] 97 := ((Blk.new w _ _).alloc _).below' hB2
  have k2 : Blk w2 (w.heap.size + 1) #[.int .i64 0, .int .i64 0] 24 := by
    have := (Blk.new (w.alloc (.cells #[.slice a n cap] 97)) 24 #[.int .i64 0, .int .i64 0]).below' hB2
    simpa using this
  have hb2 : RowKit.Below w.heap.size w w2 := hB1.trans (hB2.mono hB1.size)
  obtain ⟨w3, hw3⟩ : ∃ w3, w3 = w2.alloc (.cells #[.int .i64 0, .int .i64 1] 166) := ⟨_, rfl⟩
  have kS : Blk w3 w2.heap.size #[.int .i64 0, .int .i64 1] 166 := hw3 ▸ Blk.new _ _ _
  have hb23 : RowKit.Below w2.heap.size w2 w3 := hw3 ▸ (Below.refl _ w2).alloc (Nat.le_refl _) _
  have k13 := k1.below' hb23
  have k23 := k2.below' hb23
  have hb3 := hb2.trans (hb23.mono hb2.size)
  have hs2 := k2.lt
  have hsS := kS.lt
  have hr := ranged_up 144 #[.pointer (some ⟨w.heap.size, 0, none⟩), .pointer (some ⟨w2.heap.size, 0, none⟩)] eg w3 (fun w' => (w3.alloc (.cells #[.int .i64 0] 29)).grownBy w' (some w2.heap.size)) (by
    refine (sum1_up a n cap xs w.heap.size w2.heap.size (w3.alloc (.cells #[.int .i64 0] 29)) (k13.alloc _) (kS.alloc _) (fun W' hg => ?_) q f hq hff hok hacc hbad).mono ?_
    · refine hL.below ?_
      exact (hb3.alloc hb3.size _).grown hg (by simp; omega) (fun k e => by cases e; omega)
    · rintro e w' ⟨rfl, h2⟩
      refine ⟨rfl, ?_, h2⟩
      exact (Blk.new w3 _ _).kept h2 (by simp; omega))
  rw [hw3] at hr
  go_wp2_with (fail)
  refine hr.mono ?_
  clear hr
  rintro e w5 ⟨rfl, w4, hg4, rfl⟩
  rw [← hw3] at hg4 ⊢
  clear hw3
  have k24 : Blk w4 (w.heap.size + 1) #[.int .i64 0, .int .i64 0] 24 := (k23.alloc (.cells #[.int .i64 0] 29)).kept hg4 (by simp; omega)
  have hb4 : RowKit.Below w.heap.size w w4 := (hb3.alloc hb3.size (.cells #[.int .i64 0] 29)).grown hg4 (by simp; omega) (fun k e => by cases e; omega)
  have hsz4 := hg4.size
  obtain ⟨w5, hw5⟩ : ∃ w5, w5 = (w4.alloc (.cells #[] 192)).setCell ⟨w3.heap.size, 0, none⟩ (.int .i64 2) := ⟨_, rfl⟩
  rw [← hw5]
  have k25 : Blk w5 (w.heap.size + 1) #[.int .i64 0, .int .i64 0] 24 := hw5 ▸ (k24.alloc _).setCell_other (by omega) 0 _
  have hb5 : RowKit.Below w.heap.size w w5 := hw5 ▸ (hb4.alloc hb4.size _).setCell (p := ⟨w3.heap.size, 0, none⟩) (by simp; omega) _
  clear hw5 k24 k23 k13 k1 k2 kS
  have c6 := k25.cell
  have f6 := k25.frozen
  go_wp2_with (fail)
  have hbl : Blk (w5.setCells (w.heap.size + 1) 0 (cF ⟨0, 0⟩)) (w.heap.size + 1) (cF ⟨0, 0⟩).toArray 24 := by
    have h := k25.setCells 0 (cF ⟨0, 0⟩)
    have e : setAll #[.int .i64 0, .int .i64 0] 0 (cF ⟨0, 0⟩) = (cF ⟨0, 0⟩).toArray := by kernel_rfl
    rw [e] at h
    exact h
  (try simp only [Exit.inBlock, Exit.then])
  first
    | (refine bodyPost_ret (results_cell_tmp rfl _ (w5.setCells (w.heap.size + 1) 0 (cF ⟨0, 0⟩)) (w.heap.size + 1) 24 (cF ⟨0, 0⟩) _ rfl hbl Tryz.underlying24 rfl (by kernel_rfl)) rfl ?_
       exact ⟨rfl, below_setCells hb5 (show w.heap.size ≤ w.heap.size + 1 by omega) 0 (cF ⟨0, 0⟩)⟩)
    | (refine bodyPost_ret (results_cell_tmp rfl _ w5 (w.heap.size + 1) 24 (cF ⟨0, 0⟩) _ rfl k25 Tryz.underlying24 rfl (by kernel_rfl)) rfl ?_
       exact ⟨rfl, hb5⟩)

set_option maxRecDepth 100000 in
set_option maxHeartbeats 1600000 in
theorem sum_any (a : Option Addr) (n cap : Nat) (xs : List Frac) (w : World) (hL : Lst w 2 cF a n cap xs) :
    Calls Tryz.prog 104 #[.slice a n cap] w (Gives w (.tuple #[aF (sumOf xs).1, .int .i64 (sumOf xs).2])) := by
  by_cases h1 : 1000 < xs.length
  · have e : sumOf xs = (⟨0, 0⟩, 2) := by unfold sumOf; rw [if_pos h1]
    rw [e]
    rw [hL.len] at h1
    have h1z : (1000 : Int) < (n : Int) := by omega
    clear e hL
    obtain ⟨w2, hw2⟩ : ∃ w2, w2 = (w.alloc (.cells #[.slice a n cap] 97)).alloc (.cells #[.int .i64 0, .int .i64 0] 24) := ⟨_, rfl⟩
    have k2 : Blk w2 (w.heap.size + 1) #[.int .i64 0, .int .i64 0] 24 := by
      have := Blk.new (w.alloc (.cells #[.slice a n cap] 97)) 24 #[.int .i64 0, .int .i64 0]
      rw [hw2]; simpa using this
    have hb2 : RowKit.Below w.heap.size w w2 := hw2 ▸ ((Below.refl _ w).alloc (Nat.le_refl _) _).alloc (by simp) _
    go_enter Tryz.func104, Tryz.ntmps104
    go_wp2_with (fail)
    (try simp only [Exit.inBlock, Exit.then])
    first
      | (rw [← hw2]
         refine bodyPost_ret (results_cell_tmp rfl _ w2 (w.heap.size + 1) 24 (cF ⟨0, 0⟩) _ rfl k2 Tryz.underlying24 rfl (by kernel_rfl)) rfl ?_
         exact ⟨rfl, hb2⟩)
  · by_cases h2 : (xs.any fun f => !validF f) = true
    · have e : sumOf xs = (⟨0, 0⟩, 1) := by unfold sumOf; rw [if_neg h1, if_pos h2]
      rw [e]
      have h1z : ¬ (1000 : Int) < (n : Int) := by have := hL.len; omega
      have hB1 : RowKit.Below w.heap.size w ((w.alloc (.cells #[.slice a n cap] 97)).alloc (.cells #[.int .i64 0, .int .i64 0] 24)) := ((Below.refl _ w).alloc (Nat.le_refl _) _).alloc (by simp) _
      have hva := valid_any a n cap xs ((w.alloc (.cells #[.slice a n cap] 97)).alloc (.cells #[.int .i64 0, .int .i64 0] 24)) (hL.below hB1)
      rw [h2] at hva
      clear e h2 hL h1
      go_enter Tryz.func104, Tryz.ntmps104
      go_wp2_with (fail)
      refine hva.mono ?_
      clear hva
      rintro e w2 ⟨rfl, hB2⟩
      have k2 : Blk w2 (w.heap.size + 1) #[.int .i64 0, .int .i64 0] 24 := by
        have := (Blk.new (w.alloc (.cells #[.slice a n cap] 97)) 24 #[.int .i64 0, .int .i64 0]).below' hB2
        simpa using this
      have hb2 : RowKit.Below w.heap.size w w2 := hB1.trans (hB2.mono hB1.size)
      have c6 := k2.cell
      have f6 := k2.frozen
      go_wp2_with (fail)
      (try simp only [Exit.inBlock, Exit.then])
      have hbl : Blk (w2.setCells (w.heap.size + 1) 0 (cF ⟨0, 0⟩)) (w.heap.size + 1) (cF ⟨0, 0⟩).toArray 24 := by
        have h := k2.setCells 0 (cF ⟨0, 0⟩)
        have e : setAll #[.int .i64 0, .int .i64 0] 0 (cF ⟨0, 0⟩) = (cF ⟨0, 0⟩).toArray := by kernel_rfl
        rw [e] at h
        exact h
      first
        | (refine bodyPost_ret (results_cell_tmp rfl _ (w2.setCells (w.heap.size + 1) 0 (cF ⟨0, 0⟩)) (w.heap.size + 1) 24 (cF ⟨0, 0⟩) _ rfl hbl Tryz.underlying24 rfl (by kernel_rfl)) rfl ?_
           exact ⟨rfl, below_setCells hb2 (show w.heap.size ≤ w.heap.size + 1 by omega) 0 (cF ⟨0, 0⟩)⟩)
        | (refine bodyPost_ret (results_cell_tmp rfl _ w2 (w.heap.size + 1) 24 (cF ⟨0, 0⟩) _ rfl k2 Tryz.underlying24 rfl (by kernel_rfl)) rfl ?_
           exact ⟨rfl, hb2⟩)
    · have hv : (xs.any fun f => !validF f) = false := by simpa using h2
      have hall : ∀ f ∈ xs, frOk f := fun f hf => by
        have := List.any_eq_false.1 hv f hf
        exact validF_ok (by simpa using this)
      have e : sumOf xs = sumGo ⟨0, 1⟩ xs := by unfold sumOf; rw [if_neg h1, if_neg h2]
      rw [e]
      have hn : n ≤ 1000 := by have := hL.len; omega
      rcases sumGo_cases xs hall with ⟨s1, s2, _⟩ | ⟨k, f, s1, s2, s3, s4, s5⟩
      · rw [s2]; exact sum_ok a n cap xs w hL hn hv s1
      · rw [s5]; exact sum_up a n cap xs w hL hn hv k f s1 (hall f (List.mem_iff_getElem?.2 ⟨k, s1⟩)) s2 s3 s4

end Go.Proofs.YtollegoajlfdiaaGreat

/-
  Walks: what is cut off of a part; the comparison of two of them.
-/
namespace Go.Proofs.YtollegoajlfdiaaGreat
open Go.RowKit Lg Go.Sort Go.Shelf

set_option maxRecDepth 100000 in
set_option maxHeartbeats 1600000 in
theorem cut_any (Bt Bp : Nat) (total : Int) (a : Option Addr) (n cap : Nat) (xs : List Frac) (i : Nat) (x : Frac) (w : World) (hBt : Blk w Bt #[.int .i64 total] 3) (hBp : Blk w Bp #[.slice a n cap] 97)
    (hL : Lst w 2 cF a n cap xs) (hx : xs[i]? = some x) (ht : 0 ≤ total ∧ total ≤ 1000000000) (h0 : 0 ≤ x.num ∧ x.num ≤ x.den) (hb : 1 ≤ x.den ∧ x.den ≤ 1000000) :
    Calls Tryz.prog 105 #[.int .i64 i, .pointer (some ⟨Bt, 0, none⟩), .pointer (some ⟨Bp, 0, none⟩)] w (Gives w (aF ⟨(total * x.num) % x.den, x.den⟩)) := by
  have hm : cap ≤ 9223372036854775807 := by have := hL.max; unfold maxLen at this; omega
  have hle := hL.le
  have hi : i < n := by rw [← hL.len]; exact (List.getElem?_eq_some_iff.1 hx).1
  obtain ⟨b, off, rfl, hbl, hr⟩ := hL.at_ i x hx
  obtain ⟨b3, b4⟩ := hb
  obtain ⟨h0, h02⟩ := h0
  obtain ⟨t1, t2⟩ := ht
  have p1 : 0 ≤ total * x.num := Int.mul_nonneg t1 h0
  have p2 : total * x.num ≤ 1000000000000000 := by
    calc total * x.num ≤ 1000000000 * x.num := Int.mul_le_mul_of_nonneg_right t2 h0
      _ ≤ 1000000000000000 := by omega
  have hw1 : IntKind.i64.wrap (total * x.num) = total * x.num := by rw [IntKind.wrap_i64]; omega
  have hmod : 0 ≤ (total * x.num) % x.den ∧ (total * x.num) % x.den < x.den := ⟨Int.emod_nonneg _ (by omega), Int.emod_lt_of_pos _ (by omega)⟩
  have htm : (total * x.num).tmod x.den = (total * x.num) % x.den := Int.tmod_eq_emod_of_nonneg p1
  have hw2 : IntKind.i64.wrap ((total * x.num) % x.den) = (total * x.num) % x.den := by rw [IntKind.wrap_i64]; omega
  have hd0 : (x.den == 0) = false := by simp; omega
  have hd1 : x.den ≠ 0 := by omega
  have l1 := show w.cell? ⟨b, off + i * 2, none⟩ = some (.int .i64 x.num) from hr 0 _ rfl
  have l2 := show w.cell? ⟨b, off + i * 2 + 1, none⟩ = some (.int .i64 x.den) from hr 1 _ rfl
  clear hr hL
  go_enter Tryz.func105, Tryz.ntmps105
  go_wp2_with (fail)
  obtain ⟨w1, hw⟩ : ∃ w1, w1 = w.alloc (.cells #[.int .i64 0, .int .i64 0] 24) := ⟨_, rfl⟩
  rw [← hw]
  have c1 : w1.cell? ⟨b, off + i * 2, none⟩ = some (.int .i64 x.num) := hw ▸ cell_allocs l1 _
  have c2 : w1.cell? ⟨b, off + i * 2 + 1, none⟩ = some (.int .i64 x.den) := hw ▸ cell_allocs l2 _
  have c3 : w1.cell? ⟨Bt, 0, none⟩ = some (.int .i64 total) := hw ▸ (hBt.alloc _).cell 0
  have c4 : w1.cell? ⟨Bp, 0, none⟩ = some (.slice (some ⟨b, off, none⟩) n cap) := hw ▸ (hBp.alloc _).cell 0
  have k5 : Blk w1 w.heap.size #[.int .i64 0, .int .i64 0] 24 := hw ▸ Blk.new _ _ _
  have hb1 : RowKit.Below w.heap.size w w1 := hw ▸ (Below.refl _ w).alloc (Nat.le_refl _) _
  clear hw l1 l2 hBt hBp
  go_still_tail 18, (by kernel_rfl)
  change wpList _ _ _ _ _ w1.drew
  have c5 := k5.cell
  have f5 := k5.frozen
  go_wp2_with (fail)
  refine bodyPost_ret (results_cell_row rfl _ _ w.heap.size 24 _ _ _ rfl (((k5.setCell 0 _).setCell 1 _).drew) Tryz.underlying24 rfl (by kernel_rfl)) rfl ⟨rfl, ((hb1.setCell (p := ⟨w.heap.size, 0, none⟩) (Nat.le_refl _) _).setCell (p := ⟨w.heap.size, 1, none⟩) (Nat.le_refl _) _).drew⟩

end Go.Proofs.YtollegoajlfdiaaGreat
