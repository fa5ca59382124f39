import Derived.Test.YtkeppoiomjhkpaaGreatDoorPart01
import Derived.Test.YtkeppoiomjhkpaaGreatDoorPart19
/-
  Plain laws: the rate in force stays between the hours from which rates are; where one record more changes it.
-/
namespace Lg
open Go

theorem compactUpTo_sorted (d : Array Int) (hs : ∀ i j, i ≤ j → j < d.size → d[i]! ≤ d[j]!) (m : Nat) (hm : m ≤ d.size) :
    (Lib.compactUpTo d m).Pairwise (· < ·) ∧ ∀ x, x ∈ Lib.compactUpTo d m ↔ ∃ j, j < m ∧ d[j]! = x := by
  induction m with
  | zero => simp [Lib.compactUpTo]
  | succ m ih =>
    obtain ⟨h1, h2⟩ := ih (by omega)
    rw [Lib.compactUpTo_succ]
    by_cases hk : Lib.keeps d m = true
    · rw [if_pos hk]
      constructor
      · rw [List.pairwise_append]
        refine ⟨h1, by simp, fun x hx y hy => ?_⟩
        simp only [List.mem_singleton] at hy
        subst hy
        obtain ⟨j, hj, rfl⟩ := (h2 x).1 hx
        have h3 : d[m]! ≠ d[m - 1]! := by
          unfold Lib.keeps at hk
          rcases of_decide_eq_true hk with h | h
          · omega
          · exact h
        have h4 := hs j (m - 1) (by omega) (by omega)
        have h5 := hs (m - 1) m (by omega) (by omega)
        omega
      · intro x
        rw [List.mem_append, h2, List.mem_singleton]
        constructor
        · rintro (⟨j, hj, rfl⟩ | rfl)
          · exact ⟨j, by omega, rfl⟩
          · exact ⟨m, by omega, rfl⟩
        · rintro ⟨j, hj, rfl⟩
          by_cases e : j = m
          · subst e; exact Or.inr rfl
          · exact Or.inl ⟨j, by omega, rfl⟩
    · rw [if_neg hk, List.append_nil]
      refine ⟨h1, fun x => ?_⟩
      rw [h2]
      have h3 : m ≠ 0 ∧ d[m]! = d[m - 1]! := by
        unfold Lib.keeps at hk
        rw [decide_eq_true_eq] at hk
        refine ⟨fun e => hk (Or.inl e), ?_⟩
        by_cases e : d[m]! = d[m - 1]!
        · exact e
        · exact absurd (Or.inr e) hk
      constructor
      · rintro ⟨j, hj, rfl⟩; exact ⟨j, by omega, rfl⟩
      · rintro ⟨j, hj, rfl⟩
        by_cases e : j = m
        · subst e; exact ⟨j - 1, by omega, h3.2.symm⟩
        · exact ⟨j, by omega, rfl⟩

theorem compact_sorted {zs : List Int} (h : zs.Pairwise (· ≤ ·)) : (Lib.compact zs).Pairwise (· < ·) ∧ ∀ x, x ∈ Lib.compact zs ↔ x ∈ zs := by
  have hg : ∀ i, i < zs.length → zs.toArray[i]! = zs[i]! := fun i hi => by simp [hi]
  have hs : ∀ i j, i ≤ j → j < zs.toArray.size → zs.toArray[i]! ≤ zs.toArray[j]! := fun i j hij hj => by
    have hj' : j < zs.length := by simpa using hj
    rw [hg i (by omega), hg j hj', getElem!_pos zs i (by omega), getElem!_pos zs j hj']
    by_cases e : i = j
    · subst e; exact Int.le_refl _
    · exact List.pairwise_iff_getElem.1 h i j (by omega) hj' (by omega)
  obtain ⟨h1, h2⟩ := compactUpTo_sorted zs.toArray hs zs.length (by simp)
  refine ⟨h1, fun x => (h2 x).trans ?_⟩
  constructor
  · rintro ⟨j, hj, rfl⟩
    rw [hg j hj, getElem!_pos zs j hj]; exact List.getElem_mem hj
  · intro hx
    obtain ⟨j, hj, rfl⟩ := List.mem_iff_getElem.1 hx
    exact ⟨j, hj, by rw [hg j hj, getElem!_pos zs j hj]⟩

theorem sorted_le (zs : List Int) : (zs.mergeSort fun x y => decide (x ≤ y)).Pairwise (· ≤ ·) := by
  have h := List.pairwise_mergeSort (le := fun x y : Int => decide (x ≤ y)) (fun a b c h1 h2 => by simp at *; omega) (fun a b => by simp; omega) zs
  exact h.imp (fun h => by simpa using h)

theorem starts_strict (l : List Rate) : (startsOf l).Pairwise (· < ·) := (compact_sorted (sorted_le _)).1

theorem mem_starts_iff (l : List Rate) (h : Int) : h ∈ startsOf l ↔ ∃ x ∈ l, x.of_ = 0 ∧ x.from_ = h := by
  refine ⟨mem_startsOf, ?_⟩
  rintro ⟨x, hx, h0, rfl⟩
  unfold startsOf
  rw [(compact_sorted (sorted_le _)).2, List.mem_mergeSort]
  exact List.mem_map.2 ⟨x, List.mem_filter.2 ⟨hx, by simpa using h0⟩, rfl⟩

/-! ### The rate in force, off the list of those that count -/
def forceC (c : List Rate) (goods : ByteArray) (hour : Int) : Rate × Bool :=
  if 0 < (c.foldl (bestStep goods hour) (zeroRate, zeroRate)).1.id then ((c.foldl (bestStep goods hour) (zeroRate, zeroRate)).1, true)
  else ((c.foldl (bestStep goods hour) (zeroRate, zeroRate)).2, decide (0 < (c.foldl (bestStep goods hour) (zeroRate, zeroRate)).2.id))

theorem inForce_eq (l : List Rate) (goods : ByteArray) (hour known : Int) : inForce l goods hour known = forceC (cntR l known) goods hour := rfl

theorem bestStep_congr (goods : ByteArray) {h h' : Int} {x : Rate} (hx : x.from_ ≤ h ↔ x.from_ ≤ h') (b : Rate × Rate) : bestStep goods h b x = bestStep goods h' b x := by
  unfold bestStep
  simp only [hx]

theorem bestStep_late (goods : ByteArray) {h : Int} {x : Rate} (hx : h < x.from_) (b : Rate × Rate) : bestStep goods h b x = b := by
  unfold bestStep
  have h1 : ¬ (x.from_ ≤ h ∧ (b.1.id = 0 ∨ b.1.from_ ≤ x.from_)) := fun e => by omega
  have h2 : ¬ (x.goods = ⟨#[]⟩ ∧ x.from_ ≤ h ∧ (b.2.id = 0 ∨ b.2.from_ ≤ x.from_)) := fun e => by omega
  rw [if_neg h1, if_neg h2, ite_self]

theorem fold_congr (goods : ByteArray) {h h' : Int} (c : List Rate) (hx : ∀ x ∈ c, x.from_ ≤ h ↔ x.from_ ≤ h') (b : Rate × Rate) : c.foldl (bestStep goods h) b = c.foldl (bestStep goods h') b := by
  induction c generalizing b with
  | nil => rfl
  | cons x r ih =>
    rw [List.foldl_cons, List.foldl_cons, bestStep_congr goods (hx x List.mem_cons_self)]
    exact ih (fun y hy => hx y (List.mem_cons_of_mem _ hy)) _

theorem fold_late (goods : ByteArray) {h : Int} (c : List Rate) (hx : ∀ x ∈ c, h < x.from_) (b : Rate × Rate) : c.foldl (bestStep goods h) b = b := by
  induction c generalizing b with
  | nil => rfl
  | cons x r ih =>
    rw [List.foldl_cons, bestStep_late goods (hx x List.mem_cons_self)]
    exact ih (fun y hy => hx y (List.mem_cons_of_mem _ hy)) _

theorem forceC_congr (goods : ByteArray) {h h' : Int} (c : List Rate) (hx : ∀ x ∈ c, x.from_ ≤ h ↔ x.from_ ≤ h') : forceC c goods h = forceC c goods h' := by
  unfold forceC; rw [fold_congr goods c hx]

theorem forceC_late (goods : ByteArray) {h : Int} (c : List Rate) (hx : ∀ x ∈ c, h < x.from_) : forceC c goods h = (zeroRate, false) := by
  unfold forceC; rw [fold_late goods c hx]; rfl

theorem bestStep_mem (goods : ByteArray) (h : Int) (x : Rate) (b : Rate × Rate) : ((bestStep goods h b x).1 = b.1 ∨ (bestStep goods h b x).1 = x) ∧ ((bestStep goods h b x).2 = b.2 ∨ (bestStep goods h b x).2 = x) := by
  unfold bestStep
  split
  · split <;> simp
  · split <;> simp

theorem fold_mem (goods : ByteArray) (h : Int) (c : List Rate) (b : Rate × Rate) :
    ((c.foldl (bestStep goods h) b).1 = b.1 ∨ (c.foldl (bestStep goods h) b).1 ∈ c) ∧ ((c.foldl (bestStep goods h) b).2 = b.2 ∨ (c.foldl (bestStep goods h) b).2 ∈ c) := by
  induction c generalizing b with
  | nil => exact ⟨Or.inl rfl, Or.inl rfl⟩
  | cons x r ih =>
    rw [List.foldl_cons]
    obtain ⟨i1, i2⟩ := ih (bestStep goods h b x)
    obtain ⟨s1, s2⟩ := bestStep_mem goods h x b
    constructor
    · rcases i1 with i1 | i1
      · rw [i1]
        rcases s1 with s1 | s1
        · exact Or.inl s1
        · rw [s1]; exact Or.inr List.mem_cons_self
      · exact Or.inr (List.mem_cons_of_mem _ i1)
    · rcases i2 with i2 | i2
      · rw [i2]
        rcases s2 with s2 | s2
        · exact Or.inl s2
        · rw [s2]; exact Or.inr List.mem_cons_self
      · exact Or.inr (List.mem_cons_of_mem _ i2)

theorem forceC_mem (goods : ByteArray) (h : Int) (c : List Rate) (hid : ∀ x ∈ c, 1 ≤ x.id) : forceC c goods h = (zeroRate, false) ∨ ∃ x ∈ c, forceC c goods h = (x, true) := by
  obtain ⟨h1, h2⟩ := fold_mem goods h c (zeroRate, zeroRate)
  unfold forceC
  generalize c.foldl (bestStep goods h) (zeroRate, zeroRate) = b at *
  have hz : zeroRate.id = 0 := rfl
  by_cases hb : 0 < b.1.id
  · rw [if_pos hb]
    rcases h1 with h1 | h1
    · exfalso; rw [h1] at hb; simp [hz] at hb
    · exact Or.inr ⟨b.1, h1, rfl⟩
  · rw [if_neg hb]
    rcases h2 with h2 | h2
    · left; rw [h2]; rfl
    · right
      refine ⟨b.2, h2, ?_⟩
      have := hid _ h2
      rw [decide_eq_true (show 0 < b.2.id by omega)]

/-! ### Valid lists -/
theorem followsR_parts {l : List Rate} {x : Rate} (h : followsR l x = 0) : rateOk x = true ∧ (∀ y ∈ l, y.id ≠ x.id) ∧ (∀ y, l.getLast? = some y → y.known ≤ x.known) ∧ (x.of_ ≠ 0 → (∃ y ∈ l, y.id = x.of_ ∧ y.of_ = 0) ∧ ∀ y ∈ l, y.of_ ≠ x.of_) := by
  have hok := (followsR_ok h).1
  rw [followsR_eq] at h
  by_cases h1 : 100 ≤ l.length
  · rw [if_pos h1] at h; cases h
  rw [if_neg h1, hok] at h
  simp only [Bool.not_true, Bool.false_eq_true, if_false] at h
  by_cases h2 : (l.any fun y => decide (y.id = x.head.id)) = true
  · rw [if_pos h2] at h; cases h
  rw [if_neg h2] at h
  have h3 : (∀ y, l.getLast? = some y → y.known ≤ x.known) ∧ (if x.head.of_ = 0 then (0 : Int) else if !(l.any fun y => decide (y.id = x.head.of_) && decide (y.of_ = 0)) then 5 else if l.any (fun y => decide (y.of_ = x.head.of_)) then 6 else 0) = 0 := by
    cases hl : l.getLast? with
    | none => rw [hl] at h; exact ⟨(fun y hy => (by cases hy)), (by simpa using h)⟩
    | some z =>
      rw [hl] at h
      dsimp only at h
      by_cases h4 : decide (x.head.known < z.head.known) = true
      · rw [if_pos h4] at h; cases h
      · rw [if_neg h4] at h
        refine ⟨fun y hy => ?_, h⟩
        cases hy
        rw [decide_eq_true_eq] at h4
        show z.head.known ≤ x.head.known
        omega
  clear h
  obtain ⟨h3, h⟩ := h3
  refine ⟨hok, fun y hy e => ?_, fun y hy => ?_, fun h0 => ?_⟩
  · exact h2 (List.any_eq_true.2 ⟨y, hy, decide_eq_true e⟩)
  · exact h3 y hy
  · have h0' : ¬ x.head.of_ = 0 := h0
    rw [if_neg h0'] at h
    by_cases h4 : (!(l.any fun y => decide (y.id = x.head.of_) && decide (y.of_ = 0))) = true
    · rw [if_pos h4] at h; cases h
    rw [if_neg h4] at h
    by_cases h5 : (l.any fun y => decide (y.of_ = x.head.of_)) = true
    · rw [if_pos h5] at h; cases h
    refine ⟨?_, fun y hy e => h5 (List.any_eq_true.2 ⟨y, hy, decide_eq_true e⟩)⟩
    rw [Bool.not_eq_true', Bool.not_eq_false] at h4
    obtain ⟨y, hy, hh⟩ := List.any_eq_true.1 h4
    rw [Bool.and_eq_true, decide_eq_true_eq, decide_eq_true_eq] at hh
    exact ⟨y, hy, hh⟩

theorem rateOk_id {x : Rate} (h : rateOk x = true) : 1 ≤ x.id := by
  unfold rateOk at h
  simp only [Bool.and_eq_true, inn_iff] at h
  exact h.1.1.1

theorem rateOk_known {x : Rate} (h : rateOk x = true) : 0 ≤ x.known ∧ x.known ≤ 1000000 := by
  unfold rateOk at h
  simp only [Bool.and_eq_true, inn_iff] at h
  exact h.1.2

/-- In a valid list no two records have one Id. -/
theorem valid_ids {l : List Rate} (h : (checkRates l).2 = 0) : ∀ x ∈ l, ∀ y ∈ l, x.id = y.id → x = y := by
  have key : ∀ (i j : Nat) (x y : Rate), l[i]? = some x → l[j]? = some y → i < j → x.id ≠ y.id := fun i j x y hi hj hij => by
    obtain ⟨_, h2, _⟩ := followsR_parts (chkFrom_ok followsR [] l h j y hj)
    refine h2 x ?_
    rw [List.nil_append]
    exact List.mem_iff_getElem?.2 ⟨i, by rw [List.getElem?_take_of_lt hij]; exact hi⟩
  intro x hx y hy e
  obtain ⟨i, hi⟩ := List.mem_iff_getElem?.1 hx
  obtain ⟨j, hj⟩ := List.mem_iff_getElem?.1 hy
  rcases Nat.lt_trichotomy i j with h1 | h1 | h1
  · exact absurd e (key i j x y hi hj h1)
  · subst h1; rw [hi] at hj; cases hj; rfl
  · exact absurd e.symm (key j i y x hj hi h1)

theorem chkFrom_snoc {α : Type} (f : List α → α → Int) (pre l : List α) (x : α) (h : (chkFrom f pre l).2 = 0) : chkFrom f pre (l ++ [x]) = if f (pre ++ l) x = 0 then ((0 : Int), (0 : Int)) else (((pre ++ l).length : Int), f (pre ++ l) x) := by
  induction l generalizing pre with
  | nil => simp [chkFrom]
  | cons y r ih =>
    rw [chkFrom] at h
    rw [List.cons_append, chkFrom]
    by_cases hy : f pre y = 0
    · rw [if_pos hy] at h ⊢
      rw [ih _ h, List.append_assoc]; rfl
    · rw [if_neg hy] at h; exact absurd h hy

theorem valid_snoc {l : List Rate} {x : Rate} (h : (checkRates l).2 = 0) (hx : followsR l x = 0) : (checkRates (l ++ [x])).2 = 0 := by
  unfold checkRates at *
  rw [chkFrom_snoc followsR [] l x h, List.nil_append, if_pos hx]

theorem mem_cntR {l : List Rate} {k : Int} {x : Rate} (h : x ∈ cntR l k) : x ∈ l ∧ x.of_ = 0 ∧ x.known ≤ k := by
  unfold cntR at h
  obtain ⟨h1, h2⟩ := List.mem_filter.1 h
  unfold counts at h2
  simp only [Bool.and_eq_true, decide_eq_true_eq] at h2
  exact ⟨h1, h2.1.1, h2.1.2⟩

/-! ### Between the hours from which rates are nothing changes -/
theorem greatest (S : List Int) (h : Int) : (∃ s ∈ S, s ≤ h ∧ ∀ t ∈ S, t ≤ h → t ≤ s) ∨ ∀ t ∈ S, h < t := by
  induction S with
  | nil => right; simp
  | cons a r ih =>
    rcases ih with ⟨s, hs, h1, h2⟩ | h2
    · left
      by_cases ha : a ≤ h ∧ s < a
      · refine ⟨a, List.mem_cons_self, ha.1, fun t ht hth => ?_⟩
        rcases List.mem_cons.1 ht with rfl | ht
        · exact Int.le_refl _
        · have := h2 t ht hth; omega
      · refine ⟨s, List.mem_cons_of_mem _ hs, h1, fun t ht hth => ?_⟩
        rcases List.mem_cons.1 ht with rfl | ht
        · omega
        · exact h2 t ht hth
    · by_cases ha : a ≤ h
      · left
        refine ⟨a, List.mem_cons_self, ha, fun t ht hth => ?_⟩
        rcases List.mem_cons.1 ht with rfl | ht
        · exact Int.le_refl _
        · have := h2 t ht; omega
      · right
        intro t ht
        rcases List.mem_cons.1 ht with rfl | ht
        · omega
        · exact h2 t ht

/-- The Id of the rate in force; 0: there is none. -/
def fid (l : List Rate) (goods : ByteArray) (known h : Int) : Int := (inForce l goods h known).1.id

theorem force_at (S : List Int) (l : List Rate) (hS : ∀ x ∈ l, x.of_ = 0 → x.from_ ∈ S) (goods : ByteArray) (known h s : Int) (h1 : s ≤ h) (h2 : ∀ t ∈ S, t ≤ h → t ≤ s) : inForce l goods h known = inForce l goods s known := by
  rw [inForce_eq, inForce_eq]
  refine forceC_congr goods _ (fun x hx => ?_)
  obtain ⟨a, b, _⟩ := mem_cntR hx
  exact ⟨fun e => h2 _ (hS x a b) e, fun e => by omega⟩

theorem force_before (S : List Int) (l : List Rate) (hS : ∀ x ∈ l, x.of_ = 0 → x.from_ ∈ S) (goods : ByteArray) (known h : Int) (h2 : ∀ t ∈ S, h < t) : inForce l goods h known = (zeroRate, false) := by
  rw [inForce_eq]
  refine forceC_late goods _ (fun x hx => ?_)
  obtain ⟨a, b, _⟩ := mem_cntR hx
  exact h2 _ (hS x a b)

theorem rateOf_ok {l : List Rate} (hv : (checkRates l).2 = 0) (goods : ByteArray) (h known : Int) :
    rateOf l goods h known = (zeroRate, 60) ∧ fid l goods known h = 0 ∧ (inForce l goods h known) = (zeroRate, false) ∨ ∃ x ∈ l, rateOf l goods h known = (x, 0) ∧ fid l goods known h = x.id ∧ 1 ≤ x.id ∧ inForce l goods h known = (x, true) := by
  unfold rateOf fid
  rw [if_pos hv, inForce_eq]
  rcases forceC_mem goods h (cntR l known) (fun x hx => rateOk_id (checkRates_ok hv x (mem_cntR hx).1)) with e | ⟨x, hx, e⟩
  · left; rw [e]; exact ⟨rfl, rfl, rfl⟩
  · right; exact ⟨x, (mem_cntR hx).1, by rw [e]; rfl, by rw [e], rateOk_id (checkRates_ok hv x (mem_cntR hx).1), e⟩

/-- Two answers are one where their Ids are. -/
theorem same_iff {l m : List Rate} (hl : (checkRates l).2 = 0) (hm : (checkRates m).2 = 0) (hsub : ∀ x ∈ l, x ∈ m) (goods : ByteArray) (h h' known : Int) :
    rateOf l goods h known = rateOf m goods h' known ↔ fid l goods known h = fid m goods known h' := by
  rcases rateOf_ok hl goods h known with ⟨e1, e2, _⟩ | ⟨x, hx, e1, e2, e3, _⟩ <;> rcases rateOf_ok hm goods h' known with ⟨f1, f2, _⟩ | ⟨y, hy, f1, f2, f3, _⟩
  · rw [e1, e2, f1, f2]; simp
  · rw [e1, e2, f1, f2]
    constructor
    · intro e; cases e
    · intro e; omega
  · rw [e1, e2, f1, f2]
    constructor
    · intro e; cases e
    · intro e; omega
  · rw [e1, e2, f1, f2]
    constructor
    · intro e; cases e; rfl
    · intro e; rw [valid_ids hm x (hsub x hx) y hy e]

/-! ### Touched -/
def nxt (S : List Int) (j : Int) : Int := match S.find? (fun t => decide (j < t)) with | some t => t - 1 | none => 1000000

def hd1 : List Int → Int
  | [] => 1000000
  | h :: _ => h - 1

theorem touchGo_eq (l m : List Rate) (goods : ByteArray) (known a : Int) (r : List Int) (s : Int × Int × Bool) (hD : fid l goods known a = fid m goods known a) :
    touchGo l m goods known (a :: r) s = touchGo l m goods known r s := by
  rw [touchGo.eq_def]; exact if_pos hD

theorem touchGo_ne (l m : List Rate) (goods : ByteArray) (known a : Int) (r : List Int) (s : Int × Int × Bool) (hD : ¬ fid l goods known a = fid m goods known a) :
    touchGo l m goods known (a :: r) s = touchGo l m goods known r (if s.2.2 = true then s.1 else a, hd1 r, true) := by
  rw [touchGo.eq_def]
  refine (if_neg hD).trans ?_
  cases r <;> rfl

theorem touchGo_spec (l m : List Rate) (goods : ByteArray) (known : Int) : ∀ (S : List Int), S.Pairwise (· < ·) → ∀ s : Int × Int × Bool,
    ((∀ h ∈ S, fid l goods known h = fid m goods known h) ∧ touchGo l m goods known S s = s) ∨
    ∃ f j, f ∈ S ∧ j ∈ S ∧ fid l goods known f ≠ fid m goods known f ∧ fid l goods known j ≠ fid m goods known j ∧ (∀ h ∈ S, fid l goods known h ≠ fid m goods known h → f ≤ h ∧ h ≤ j) ∧
      touchGo l m goods known S s = (if s.2.2 = true then s.1 else f, nxt S j, true) := by
  intro S
  induction S with
  | nil => intro _ s; left; exact ⟨by simp, rfl⟩
  | cons a r ih =>
    intro hp s
    obtain ⟨hp1, hp2⟩ := List.pairwise_cons.1 hp
    have hnx : ∀ j ∈ r, nxt (a :: r) j = nxt r j := fun j hj => by
      have := hp1 j hj
      unfold nxt
      rw [List.find?_cons_of_neg (by simp; omega)]
    by_cases hD : fid l goods known a = fid m goods known a
    · have hst : touchGo l m goods known (a :: r) s = touchGo l m goods known r s := touchGo_eq l m goods known a r s hD
      rw [hst]
      rcases ih hp2 s with ⟨h1, h2⟩ | ⟨f, j, hf, hj, d1, d2, hb, h2⟩
      · left
        refine ⟨fun h hh => ?_, h2⟩
        rcases List.mem_cons.1 hh with rfl | hh
        · exact hD
        · exact h1 h hh
      · right
        refine ⟨f, j, List.mem_cons_of_mem _ hf, List.mem_cons_of_mem _ hj, d1, d2, fun h hh hd => ?_, by rw [h2, hnx j hj]⟩
        rcases List.mem_cons.1 hh with rfl | hh
        · exact absurd hD hd
        · exact hb h hh hd
    · right
      have hst : touchGo l m goods known (a :: r) s = touchGo l m goods known r (if s.2.2 = true then s.1 else a, hd1 r, true) := touchGo_ne l m goods known a r s hD
      rw [hst]
      rcases ih hp2 (if s.2.2 = true then s.1 else a, hd1 r, true) with ⟨h1, h2⟩ | ⟨f, j, hf, hj, d1, d2, hb, h2⟩
      · refine ⟨a, a, List.mem_cons_self, List.mem_cons_self, hD, hD, fun h hh hd => ?_, ?_⟩
        · rcases List.mem_cons.1 hh with rfl | hh
          · omega
          · exact absurd (h1 h hh) hd
        · rw [h2]
          have : nxt (a :: r) a = hd1 r := by
            unfold nxt
            rw [List.find?_cons_of_neg (by simp)]
            cases r with
            | nil => rfl
            | cons b t => rw [List.find?_cons_of_pos (by simpa using hp1 b List.mem_cons_self)]; rfl
          rw [this]
      · refine ⟨a, j, List.mem_cons_self, List.mem_cons_of_mem _ hj, hD, d2, fun h hh hd => ?_, ?_⟩
        · rcases List.mem_cons.1 hh with rfl | hh
          · have := hp1 j hj; omega
          · have h3 := hb h hh hd
            have := hp1 f hf; omega
        · rw [h2, hnx j hj]; rfl

theorem nxt_ge (S : List Int) (j : Int) (hj : j ≤ 1000000) : j ≤ nxt S j := by
  unfold nxt
  cases h : S.find? (fun t => decide (j < t)) with
  | none => exact hj
  | some t => have := List.find?_some h; simp at this; dsimp only; omega

theorem nxt_lt (S : List Int) (hp : S.Pairwise (· < ·)) (j t : Int) (ht : t ∈ S) (h : j < t) : nxt S j < t := by
  induction S with
  | nil => simp at ht
  | cons a r ih =>
    obtain ⟨hp1, hp2⟩ := List.pairwise_cons.1 hp
    by_cases ha : j < a
    · unfold nxt
      rw [List.find?_cons_of_pos (by simpa using ha)]
      dsimp only
      rcases List.mem_cons.1 ht with rfl | ht
      · omega
      · have := hp1 t ht; omega
    · have hn : nxt (a :: r) j = nxt r j := by unfold nxt; rw [List.find?_cons_of_neg (by simpa using ha)]
      rw [hn]
      rcases List.mem_cons.1 ht with rfl | ht
      · omega
      · exact ih hp2 ht

theorem nxt_le (S : List Int) (hS : ∀ t ∈ S, t ≤ 1000000) (j : Int) : nxt S j ≤ 1000000 := by
  unfold nxt
  cases h : S.find? (fun t => decide (j < t)) with
  | none => exact Int.le_refl _
  | some t => have := hS t (List.mem_of_find?_eq_some h); dsimp only; omega

/-- Every hour up to the next one of the list is as the list's last hour before it. -/
theorem nxt_reach (S : List Int) (j h : Int) (hm : ∀ t ∈ S, t ≤ h → t ≤ j) (hh : h ≤ 1000000) : h ≤ nxt S j := by
  unfold nxt
  cases hf : S.find? (fun t => decide (j < t)) with
  | none => exact hh
  | some t =>
    have h1 := List.find?_some hf
    have h2 := List.mem_of_find?_eq_some hf
    simp only [decide_eq_true_eq] at h1
    dsimp only
    by_cases e : t ≤ h
    · have := hm t h2 e; omega
    · omega

theorem touched_law {l : List Rate} {x : Rate} (goods : ByteArray) (h : (appendRate l x).2 = 0) :
    ∃ f u ok, touchedOf l x goods = ((f, u, ok), 0) ∧ 0 ≤ f ∧ f ≤ 1000000 ∧ 0 ≤ u ∧ u ≤ 1000000 ∧ (ok = false → f = 0 ∧ u = 0) ∧
      (ok = true → rateOf l goods f x.known ≠ rateOf (l ++ [x]) goods f x.known ∧ rateOf l goods u x.known ≠ rateOf (l ++ [x]) goods u x.known) ∧
      ∀ t, 0 ≤ t → t ≤ 1000000 → (ok = false → rateOf l goods t x.known = rateOf (l ++ [x]) goods t x.known) ∧
        (rateOf l goods t x.known ≠ rateOf (l ++ [x]) goods t x.known → f ≤ t ∧ t ≤ u ∧ (x.of_ = 0 → x.from_ ≤ t)) := by
  obtain ⟨h1, h2, h3⟩ := appendRate_ok h
  have hb := starts_bound h
  have hto : touchedOf l x goods = (touchGo l (appendRate l x).1 goods x.known (startsOf (appendRate l x).1) (0, 0, false), 0) := by unfold touchedOf; rw [if_pos h]
  rw [hto]
  rw [h1] at hb ⊢
  have hm := valid_snoc h2 h3
  have hsub : ∀ y ∈ l, y ∈ l ++ [x] := fun y hy => List.mem_append_left _ hy
  have hS1 : ∀ y ∈ l ++ [x], y.of_ = 0 → y.from_ ∈ startsOf (l ++ [x]) := fun y hy h0 => (mem_starts_iff _ _).2 ⟨y, hy, h0, rfl⟩
  have hS2 : ∀ y ∈ l, y.of_ = 0 → y.from_ ∈ startsOf (l ++ [x]) := fun y hy h0 => hS1 y (hsub y hy) h0
  have hsame := fun t => same_iff h2 hm hsub goods t t x.known
  have hp := starts_strict (l ++ [x])
  generalize startsOf (l ++ [x]) = S at *
  have hat : ∀ t, (∃ s ∈ S, s ≤ t ∧ (∀ v ∈ S, v ≤ t → v ≤ s) ∧ fid l goods x.known t = fid l goods x.known s ∧ fid (l ++ [x]) goods x.known t = fid (l ++ [x]) goods x.known s) ∨ (fid l goods x.known t = fid (l ++ [x]) goods x.known t) := fun t => by
    rcases greatest S t with ⟨s, hs, a, b⟩ | b
    · left
      refine ⟨s, hs, a, b, ?_, ?_⟩
      · unfold fid; rw [force_at S l hS2 goods x.known t s a b]
      · unfold fid; rw [force_at S (l ++ [x]) hS1 goods x.known t s a b]
    · right; unfold fid; rw [force_before S l hS2 goods x.known t b, force_before S (l ++ [x]) hS1 goods x.known t b]
  have hfrom : ∀ t, x.of_ = 0 → rateOf l goods t x.known ≠ rateOf (l ++ [x]) goods t x.known → x.from_ ≤ t := fun t h0 hne => by
    by_cases e : x.from_ ≤ t
    · exact e
    · exfalso
      refine hne ?_
      rw [hsame]
      unfold fid
      have hc : ∃ r, (r = [] ∨ r = [x]) ∧ cntR (l ++ [x]) x.known = cntR l x.known ++ r := by
        have hh : ∀ y ∈ l, counts ((l ++ [x]).map Rate.head) x.known y.head = counts (l.map Rate.head) x.known y.head := fun y hy => by
          unfold counts
          rw [List.map_append, List.any_append]
          have hv : (List.map Rate.head [x]).any (fun v => voids y.head v x.known) = false := by
            have hy1 := rateOk_id (checkRates_ok h2 y hy)
            have e1 : ¬ x.head.of_ = y.head.id := by show ¬ x.of_ = y.id; omega
            simp [voids, e1]
          rw [hv, Bool.or_false]
        refine ⟨[x].filter (fun y => counts ((l ++ [x]).map Rate.head) x.known y.head), ?_, ?_⟩
        · by_cases hq : counts ((l ++ [x]).map Rate.head) x.known x.head = true
          · right; exact (List.filter_cons_of_pos (p := fun y : Rate => counts ((l ++ [x]).map Rate.head) x.known y.head) hq)
          · left; exact (List.filter_cons_of_neg (p := fun y : Rate => counts ((l ++ [x]).map Rate.head) x.known y.head) hq)
        · unfold cntR
          rw [List.filter_append]
          congr 1
          exact List.filter_congr hh
      obtain ⟨r, hr, hc⟩ := hc
      rw [inForce_eq, inForce_eq, hc]
      unfold forceC
      rw [List.foldl_append, fold_late goods r (fun y hy => by rcases hr with rfl | rfl <;> simp at hy; subst hy; omega)]
  rcases touchGo_spec l (l ++ [x]) goods x.known S hp (0, 0, false) with ⟨a1, a2⟩ | ⟨f, j, hf, hj, d1, d2, hb2, a2⟩
  · rw [a2]
    have hall : ∀ t, fid l goods x.known t = fid (l ++ [x]) goods x.known t := fun t => by
      rcases hat t with ⟨s, hs, _, _, e1, e2⟩ | e
      · rw [e1, e2]; exact a1 s hs
      · exact e
    refine ⟨0, 0, false, rfl, by omega, by omega, by omega, by omega, fun _ => ⟨rfl, rfl⟩, by simp, fun t _ _ => ⟨fun _ => (hsame t).2 (hall t), fun hne => absurd ((hsame t).2 (hall t)) hne⟩⟩
  · rw [a2]
    have hjb := hb j hj
    have hfb := hb f hf
    have hn1 := nxt_ge S j hjb.2
    have hn2 := nxt_le S (fun t ht => (hb t ht).2) j
    refine ⟨f, nxt S j, true, rfl, hfb.1, hfb.2, by omega, hn2, by simp, fun _ => ⟨fun e => d1 ((hsame f).1 e), fun e => ?_⟩, fun t ht1 ht2 => ⟨by simp, fun hne => ?_⟩⟩
    · have e' := (hsame (nxt S j)).1 e
      have e1 : fid l goods x.known (nxt S j) = fid l goods x.known j := by unfold fid; rw [force_at S l hS2 goods x.known (nxt S j) j hn1 (fun v hv hvl => ?_)]; by_cases q : j < v; (have := nxt_lt S hp j v hv q; omega); omega
      have e2 : fid (l ++ [x]) goods x.known (nxt S j) = fid (l ++ [x]) goods x.known j := by unfold fid; rw [force_at S (l ++ [x]) hS1 goods x.known (nxt S j) j hn1 (fun v hv hvl => ?_)]; by_cases q : j < v; (have := nxt_lt S hp j v hv q; omega); omega
      rw [e1, e2] at e'
      exact d2 e'
    · have hne' : fid l goods x.known t ≠ fid (l ++ [x]) goods x.known t := fun e => hne ((hsame t).2 e)
      rcases hat t with ⟨s, hs, g1, g2, e1, e2⟩ | e
      · rw [e1, e2] at hne'
        obtain ⟨b1, b2⟩ := hb2 s hs hne'
        refine ⟨by omega, ?_, fun h0 => hfrom t h0 hne⟩
        by_cases q : s = j
        · subst q; exact nxt_reach S s t g2 ht2
        · have hsj : s < j := by omega
          have : ¬ j ≤ t := fun q2 => by have := g2 j hj q2; omega
          omega
      · exact absurd e hne'

/-! ### Turns -/
def turnMem (id : Int → Int) (last : Int) : List Int → Int → Prop
  | [], _ => False
  | s :: r, h => (s = h ∧ id s ≠ last) ∨ turnMem id (id s) r h

def gid (id : Int → Int) (last : Int) : List Int → Int → Int
  | [], _ => last
  | s :: r, t => if s ≤ t then gid id (id s) r t else last

theorem turnMem_mem {id : Int → Int} {S : List Int} {last h : Int} (hm : turnMem id last S h) : h ∈ S := by
  induction S generalizing last with
  | nil => exact hm.elim
  | cons s r ih =>
    rcases hm with ⟨rfl, _⟩ | hm
    · exact List.mem_cons_self
    · exact List.mem_cons_of_mem _ (ih hm)

theorem gid_late {id : Int → Int} {S : List Int} {last t : Int} (h : ∀ u ∈ S, t < u) : gid id last S t = last := by
  cases S with
  | nil => rfl
  | cons s r => rw [gid, if_neg (by have := h s List.mem_cons_self; omega)]

theorem gid_at {id : Int → Int} {S : List Int} (hp : S.Pairwise (· < ·)) {last t s : Int} (hs : s ∈ S) (h1 : s ≤ t) (h2 : ∀ u ∈ S, u ≤ t → u ≤ s) : gid id last S t = id s := by
  induction S generalizing last with
  | nil => simp at hs
  | cons a r ih =>
    obtain ⟨hp1, hp2⟩ := List.pairwise_cons.1 hp
    rcases List.mem_cons.1 hs with rfl | hs'
    · rw [gid, if_pos h1]
      refine gid_late (fun u hu => ?_)
      have h3 := hp1 u hu
      by_cases q : u ≤ t
      · have := h2 u (List.mem_cons_of_mem _ hu) q; omega
      · omega
    · have h3 := hp1 s hs'
      rw [gid, if_pos (by omega)]
      exact ih hp2 hs' (fun u hu q => h2 u (List.mem_cons_of_mem _ hu) q)

theorem turn_iff {id : Int → Int} {S : List Int} (hp : S.Pairwise (· < ·)) (last h : Int) : turnMem id last S h ↔ gid id last S h ≠ gid id last S (h - 1) := by
  induction S generalizing last with
  | nil => simp [turnMem, gid]
  | cons s r ih =>
    obtain ⟨hp1, hp2⟩ := List.pairwise_cons.1 hp
    rw [turnMem, gid, gid]
    by_cases a : s ≤ h
    · rw [if_pos a]
      by_cases b : s ≤ h - 1
      · rw [if_pos b, ← ih hp2 (id s)]
        constructor
        · rintro (⟨rfl, _⟩ | e)
          · omega
          · exact e
        · exact Or.inr
      · rw [if_neg b]
        obtain rfl : s = h := by omega
        rw [gid_late (fun u hu => hp1 u hu)]
        constructor
        · rintro (⟨_, e⟩ | e)
          · exact e
          · have := hp1 s (turnMem_mem e); omega
        · exact fun e => Or.inl ⟨rfl, e⟩
    · rw [if_neg a, if_neg (by omega)]
      constructor
      · rintro (⟨rfl, _⟩ | e)
        · omega
        · have := hp1 h (turnMem_mem e); omega
      · intro e; exact absurd rfl e

theorem turnFold (l : List Rate) (goods : ByteArray) (known : Int) (S : List Int) (last : Int) (out : List Int) (h : Int) :
    h ∈ (S.foldl (turnStep l goods known) (last, out)).2 ↔ h ∈ out ∨ turnMem (fid l goods known) last S h := by
  induction S generalizing last out with
  | nil => simp [turnMem]
  | cons s r ih =>
    rw [List.foldl_cons]
    show h ∈ (r.foldl (turnStep l goods known) (fid l goods known s, if fid l goods known s = last then out else out ++ [s])).2 ↔ _
    rw [ih, turnMem]
    by_cases e : fid l goods known s = last
    · rw [if_pos e]
      constructor
      · rintro (a | a)
        · exact Or.inl a
        · exact Or.inr (Or.inr a)
      · rintro (a | ⟨_, b⟩ | a)
        · exact Or.inl a
        · exact absurd e b
        · exact Or.inr a
    · rw [if_neg e, List.mem_append, List.mem_singleton]
      constructor
      · rintro ((a | a) | a)
        · exact Or.inl a
        · exact Or.inr (Or.inl ⟨a.symm, e⟩)
        · exact Or.inr (Or.inr a)
      · rintro (a | ⟨a, _⟩ | a)
        · exact Or.inl (Or.inl a)
        · exact Or.inl (Or.inr a.symm)
        · exact Or.inr a

theorem turns_law {l : List Rate} (hv : (checkRates l).2 = 0) (goods : ByteArray) (known h : Int) :
    h ∈ turnsOf l goods known ↔ ((rateOf l goods h known).1.id ≠ (rateOf l goods (h - 1) known).1.id ∨ (rateOf l goods h known).2 ≠ (rateOf l goods (h - 1) known).2) := by
  have hS : ∀ x ∈ l, x.of_ = 0 → x.from_ ∈ startsOf l := fun x hx h0 => (mem_starts_iff _ _).2 ⟨x, hx, h0, rfl⟩
  have hp := starts_strict l
  have hid : ∀ t, fid l goods known t = gid (fid l goods known) 0 (startsOf l) t := fun t => by
    rcases greatest (startsOf l) t with ⟨s, hs, a, b⟩ | b
    · rw [gid_at hp hs a b]
      unfold fid; rw [force_at _ l hS goods known t s a b]
    · rw [gid_late b]
      unfold fid; rw [force_before _ l hS goods known t b]; rfl
  have h1 : h ∈ turnsOf l goods known ↔ fid l goods known h ≠ fid l goods known (h - 1) := by
    unfold turnsOf
    rw [if_pos hv, turnFold, turn_iff hp, ← hid, ← hid]
    simp
  rw [h1]
  rcases rateOf_ok hv goods h known with ⟨e1, e2, _⟩ | ⟨x, hx, e1, e2, e3, _⟩ <;> rcases rateOf_ok hv goods (h - 1) known with ⟨f1, f2, _⟩ | ⟨y, hy, f1, f2, f3, _⟩
  · rw [e1, e2, f1, f2]; simp
  · rw [e1, e2, f1, f2]
    have : (0 : Int) ≠ y.id := by omega
    simp [this]
  · rw [e1, e2, f1, f2]
    have : x.id ≠ (0 : Int) := by omega
    simp [this]
  · rw [e1, e2, f1, f2]; simp

end Lg

/-
  Walks: the reference's AppendRate.
-/
namespace Go.Proofs.YtkeppoiomjhkpaaGreatDoor
open Go.RowKit Lg Go.Sort Go.Shelf

theorem step_append_list {α : Type} (w : World) {ops : Array Oper} {o : Oper} {a : Act} {K : Act → World → Prop} {Q : Exit → Act → World → Prop} {E : Prop} (hgd : o.guard = none) (s x : Operand) (t : TypeId)
    (ho : o.op = .call { callee := .builtin .append, args := #[s, x], argTypes := #[t, t] })
    (base : Nat) (e : TypeId) (i : TypeInfo) (z : Value) (size bytes : Nat) (ht : Tryz.prog.underlying t = some (.slice e)) (hi : Tryz.prog.info? e = some i) (hz : i.zero = some z)
    (hsize : i.size = size) (hby : i.bytes = bytes) (hzs : z.cells.size = size) (hsz : 0 < size) (v : Value) (n : Nat) (xs : List Value) (hs : a.eval s = v) (hown : w.ownsRow base e size v n xs)
    (enc : α → List Value) (hen : ∀ x, (enc x).length = size) (hone : ∀ x, ∀ u ∈ enc x, u.oneCell' = true) (b : Option Addr) (m c : Nat) (zs : List α) (hx : a.eval x = .slice b m c) (hM : Lst w size enc b m c zs)
    (h63 : n + m ≤ maxLen) (hbytes : (n + m) * bytes ≤ 140737488355328) (hbase : base ≤ w.heap.size)
    (h : ∀ v' w', w'.ownsRow base e size v' (n + m) (xs ++ zs.flatMap enc) → w.grownBy w' v.ownBlock → K (a.put o.dst v') w') :
    if Region.wanted o (yielded ops a.tmps) = true then Oper.wp Tryz.prog o a w K Q else E := by
  have hw : Region.wanted o (yielded ops a.tmps) = true := by simp [Region.wanted, hgd]
  rw [if_pos hw]
  obtain ⟨v', w', hr, h2, h3⟩ := run_append_list w t o.type base e i z size bytes ht hi hz hsize hby hzs hsz v n xs hown enc hen hone b m c zs hM h63 hbytes hbase
  unfold Oper.wp execOp
  simp only [ho, resolve, invoke, builtin, Sem.run_bind, Sem.run_pure, Result.andThen_ok, List.map_toArray, List.map_cons, List.map_nil, hs, hx, hr]
  exact h v' w' h2 h3

theorem Lst.oneR {W : World} {B : Nat} {x : Rate} (k : Blk W B (cR x).toArray 43) : Lst W 9 cR (some ⟨B, 0, none⟩) 1 1 [x] :=
  ⟨rfl, Nat.le_refl _, by unfold maxLen; omega, fun i y hx => by
    have hi : i = 0 := by have := (List.getElem?_eq_some_iff.1 hx).1; simp at this; exact this
    subst hi
    obtain rfl : x = y := by simpa using hx
    refine ⟨B, 0, rfl, k.lt, fun j u hu => ?_⟩
    rw [show 0 + 0 * 9 + j = j by omega, k.cell j]
    simpa using hu⟩

theorem blkB {w w' : World} {A X : Array Value} {t : TypeId} {row : Option Nat} (hg : ((w.alloc (.cells A t)).alloc (.cells X t)).drew.grownBy w' row) (hne : some (w.heap.size + 1) ≠ row) : Blk w' (w.heap.size + 1) X t := by
  have h := (Blk.new (w.alloc (.cells A t)) t X).drew
  rw [show (w.alloc (.cells A t)).heap.size = w.heap.size + 1 by simp] at h
  exact h.kept hg hne

theorem blkC {w w' : World} {A X : Array Value} {t : TypeId} {row : Option Nat} (hg : ((w.alloc (.cells X t)).alloc (.cells A t)).drew.grownBy w' row) (hne : some w.heap.size ≠ row) : Blk w' w.heap.size X t :=
  (((Blk.new w t X).alloc _).drew).kept hg hne

theorem madeC (w : World) (o : Obj) (t : TypeId) : ((w.alloc o).alloc (.cells #[] t)).drew.ownsRow w.heap.size t 9 (.slice (some ⟨w.heap.size + 1, 0, none⟩) 0 0) 0 [] := by
  have h := (World.ownsRow_made (base := w.heap.size) (e := t) (size := 9) (w.alloc o) #[] 0 (by simp) (Nat.zero_le _) rfl).drew
  rw [show (w.alloc o).heap.size = w.heap.size + 1 by simp] at h
  exact h

set_option maxRecDepth 100000 in
set_option maxHeartbeats 3200000 in
theorem appendRateR_any (a : Option Addr) (n cap : Nat) (xs : List Rate) (x : Rate) (w : World) (hn : n ≤ 299) (hL : Lst w 9 cR a n cap xs) :
    Calls Tryz.prog 22 #[.slice a n cap, aR x] w (GivesL w 43 9 cR (appendRate xs x).1 (appendRate xs x).2) := by
  have hlen := hL.len
  have hB0 : RowKit.Below w.heap.size w (w.alloc (.cells #[.int .i64 x.id, .int .i64 x.known, .int .i64 x.from_, .string x.goods, .int .i64 x.finder.num, .int .i64 x.finder.den, .int .i64 x.cart, .int .i64 x.store, .int .i64 x.of_] 43)) := (Below.refl _ w).alloc (Nat.le_refl _) _
  have hc1 := checkRatesR_any a n cap xs _ (by omega) (hL.below hB0)
  obtain ⟨i0, hi0, hz0, hz1, hz2⟩ := info_parts infoR
  by_cases h0 : (checkRates xs).2 = 0
  · rw [h0] at hc1
    generalize (checkRates xs).1 = c1 at hc1
    go_enter Tryz.func22, Tryz.ntmps22
    go_wp2_with (fail)
    refine hc1.mono ?_
    clear hc1
    rintro e w2 ⟨rfl, hB2⟩
    have k2 : Blk w2 w.heap.size #[.int .i64 x.id, .int .i64 x.known, .int .i64 x.from_, .string x.goods, .int .i64 x.finder.num, .int .i64 x.finder.den, .int .i64 x.cart, .int .i64 x.store, .int .i64 x.of_] 43 := (Blk.new w _ _).below' hB2
    have hB2 := hB0.trans (hB2.mono hB0.size)
    have HS := Lib.hid (fun W (h : RowKit.Below w2.heap.size w2 W) => (k2.below' h).cell)
    have HLw := Lib.hid (fun W (h : RowKit.Below w2.heap.size w2 W) => (hL.below hB2).below h)
    clear hL hB0
    go_wp2_with (fail)
    go_region_held3 (fun w' => ∀ j, w'.cell? ⟨w.heap.size, j, none⟩ = #[.int .i64 x.id, .int .i64 x.known, .int .i64 x.from_, .string x.goods, .int .i64 x.finder.num, .int .i64 x.finder.den, .int .i64 x.cart, .int .i64 x.store, .int .i64 x.of_][j]?)
      (((with_reducible refine HS.out _ ?_); repeat (first | (with_reducible assumption) | (with_reducible exact Below.refl _ _) | (with_reducible refine Below.alloc ?_ ?_ _) | (with_reducible refine Below.setCell ?_ ?_ _) | (with_reducible refine Below.drew ?_) | omega | (simp <;> omega) | (dsimp only; omega))))
      (first
        | (refine step_append_list _ (by rfl) _ _ _ (by rfl) w2.heap.size 43 i0 _ 9 80 Tryz.underlying39 hi0 hz0 hz1 hz2 rfl (by omega) v4 (0 + n) _ (by rfl) (by first | with_reducible exact (ho4.alloc _).drew | with_reducible exact ho4.alloc _ | with_reducible exact ho4.drew | with_reducible exact ho4) cR (fun _ => rfl) cR_one _ 1 1 [x] (by rfl) (by first | exact Lst.oneR (Blk.new w4 _ _).drew | exact Lst.oneR (blkB hg4 (fun h => absurd (Option.some.inj h : w2.heap.size + 1 = w2.heap.size) (by omega))) | exact Lst.oneR (blkC hg4 (fun h => absurd (Option.some.inj h : w2.heap.size = w2.heap.size + 1) (by omega)))) (by unfold maxLen; omega) (by omega) (by have := hB4.size; (try simp); omega) ?_; intro v5 w5 ho5 hg5; have hB5 : RowKit.Below w2.heap.size w2 w5 := below_of_grown (by repeat (first | (with_reducible assumption) | (with_reducible exact Below.refl _ _) | (with_reducible refine Below.alloc ?_ ?_ _) | (with_reducible refine Below.setCell ?_ ?_ _) | (with_reducible refine Below.drew ?_) | omega | (simp <;> omega) | (dsimp only; omega))) (Nat.le_refl _) hg5 (own_ge' ho4); have hs5 := hB5.size)
        | (refine step_append_list _ (by rfl) _ _ _ (by rfl) w2.heap.size 43 i0 _ 9 80 Tryz.underlying39 hi0 hz0 hz1 hz2 rfl (by omega) _ 0 [] (by rfl) (by first | exact (World.ownsRow_made w2 #[] 0 (Nat.le_refl _) (Nat.zero_le _) rfl).drew | exact ((World.ownsRow_made w2 #[] 0 (Nat.le_refl _) (Nat.zero_le _) rfl).alloc _).drew | exact madeC w2 _ _) cR (fun _ => rfl) cR_one _ n cap xs (by rfl) (HLw.out _ (by repeat (first | (with_reducible assumption) | (with_reducible exact Below.refl _ _) | (with_reducible refine Below.alloc ?_ ?_ _) | (with_reducible refine Below.setCell ?_ ?_ _) | (with_reducible refine Below.drew ?_) | omega | (simp <;> omega) | (dsimp only; omega)))) (by unfold maxLen; omega) (by omega) (by first | exact Nat.le_refl _ | (simp; done) | (simp; omega)) ?_; intro v4 w4 ho4 hg4; have hB4 : RowKit.Below w2.heap.size w2 w4 := below_of_grown (by repeat (first | (with_reducible assumption) | (with_reducible exact Below.refl _ _) | (with_reducible refine Below.alloc ?_ ?_ _) | (with_reducible refine Below.setCell ?_ ?_ _) | (with_reducible refine Below.drew ?_) | omega | (simp <;> omega) | (dsimp only; omega))) (Nat.le_refl _) hg4 (fun r h => by cases h; (first | exact Nat.le_refl _ | simp)); have hs4 := hB4.size)
        | fail)
    all_goals
      rw [List.nil_append, ← List.flatMap_append, Nat.zero_add] at ho5
      obtain ⟨a5, c5, rfl, _, hl5⟩ := Lst.of_owns (k := 9) (enc := cR) (fun _ => rfl) (by omega) ho5 (by rw [List.length_append, hlen]; rfl)
      have hB5 := hB2.trans (hB5.mono hB2.size)
      have ho5 := ho5.mono hB2.size
      have hc2 := checkRatesR_any a5 (n + 1) c5 (xs ++ [x]) w5 (by omega) hl5
      have hsn := chkFrom_snoc followsR [] xs x h0
      rw [List.nil_append] at hsn
      have hck : checkRates (xs ++ [x]) = if followsR xs x = 0 then ((0 : Int), (0 : Int)) else ((xs.length : Int), followsR xs x) := hsn
      have hap : appendRate xs x = if followsR xs x = 0 then (xs ++ [x], 0) else ([], followsR xs x) := by unfold appendRate; rw [if_pos h0]
      rw [hck] at hc2
      generalize appendRate xs x = q at *
      have Hap := Lib.hid hap
      clear hap hsn hck hl5 ho4 hg4 hB4 hs4 hg5 hs5
      by_cases hf : followsR xs x = 0
      · rw [if_pos hf] at hc2
        have hq := Hap.out
        rw [if_pos hf] at hq
        subst hq
        clear hf
        go_wp2_with (fail)
        refine hc2.mono ?_
        clear hc2
        rintro e w6 ⟨rfl, hB6⟩
        go_wp2_with (fail)
        go_ret2
        exact ⟨_, rfl, by rw [List.length_append, hlen]; exact own_below ho5 hB6, hB5.trans (hB6.mono hB5.size)⟩
      · rw [if_neg hf] at hc2
        have hq := Hap.out
        rw [if_neg hf] at hq
        subst hq
        generalize followsR xs x = f at *
        have g0 : (f != 0) = true := by simpa using hf
        clear hf
        go_wp2_with (fail)
        refine hc2.mono ?_
        clear hc2
        rintro e w6 ⟨rfl, hB6⟩
        go_wp2_with (fail)
        go_ret2
        exact GivesL.nil (hB5.trans (hB6.mono hB5.size))
  · have hap : appendRate xs x = ([], (checkRates xs).2) := by unfold appendRate; rw [if_neg h0]
    rw [hap]
    generalize (checkRates xs).1 = c1 at *
    generalize (checkRates xs).2 = c2 at *
    have g0 : (c2 != 0) = true := by simpa using h0
    clear h0 hap hL
    go_enter Tryz.func22, Tryz.ntmps22
    go_wp2_with (fail)
    refine hc1.mono ?_
    clear hc1
    rintro e w2 ⟨rfl, hB2⟩
    go_wp2_with (fail)
    go_ret2
    exact GivesL.nil (hB0.trans (hB2.mono hB0.size))

end Go.Proofs.YtkeppoiomjhkpaaGreatDoor
