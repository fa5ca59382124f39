import Derived.Test.YtollegoajlfdiaaGreatPart17
import Derived.Test.YtollegoajlfdiaaGreatPart20
import Derived.Test.YtollegoajlfdiaaGreatPart22
import Derived.Test.YtollegoajlfdiaaGreatPart11
import Derived.OwnWalkIn
import Derived.Deep.AppendLies
import Derived.Test.YtollegoajlfdiaaGreatPart15
/-
  Plain laws: what is known later changes nothing; valid lists of sales.
-/
namespace Lg
open Go

theorem chkFrom_of {α : Type} (f : List α → α → Int) (pre l : List α) (h : ∀ (i : Nat) (x : α), l[i]? = some x → f (pre ++ l.take i) x = 0) : (chkFrom f pre l).2 = 0 := by
  induction l generalizing pre with
  | nil => rfl
  | cons y r ih =>
    have h0 := h 0 y rfl
    rw [List.take_zero, List.append_nil] at h0
    rw [chkFrom, if_pos h0]
    refine ih _ (fun i x hx => ?_)
    have := h (i + 1) x (by simpa using hx)
    rw [List.take_succ_cons] at this
    rw [List.append_assoc]; exact this

theorem chkFrom_prefix {α : Type} (f : List α → α → Int) {l m : List α} (hp : m <+: l) (h : (chkFrom f [] l).2 = 0) : (chkFrom f [] m).2 = 0 := by
  obtain ⟨t, rfl⟩ := hp
  refine chkFrom_of f [] m (fun i x hx => ?_)
  have hi := (List.getElem?_eq_some_iff.1 hx).1
  have := chkFrom_ok f [] (m ++ t) h i x (by rw [List.getElem?_append_left hi]; exact hx)
  rw [List.take_append_of_le_length (by omega)] at this
  exact this

/-- Of a list in order those up to a bound are its beginning. -/
theorem filter_prefix {α : Type} (kn : α → Int) (K : Int) : ∀ l : List α, (l.map kn).Pairwise (· ≤ ·) → l.filter (fun x => decide (kn x ≤ K)) <+: l := by
  intro l
  induction l with
  | nil => intro _; exact List.prefix_refl _
  | cons a r ih =>
    intro hp
    rw [List.map_cons, List.pairwise_cons] at hp
    by_cases h : kn a ≤ K
    · rw [List.filter_cons_of_pos (by simpa using h)]
      exact (List.prefix_cons_inj a).2 (ih hp.2)
    · have : (a :: r).filter (fun x => decide (kn x ≤ K)) = [] := by
        rw [List.filter_eq_nil_iff]
        intro x hx
        rcases List.mem_cons.1 hx with rfl | hx
        · simpa using h
        · have := hp.1 (kn x) (List.mem_map.2 ⟨x, hx, rfl⟩)
          simp; omega
      rw [this]; exact List.nil_prefix

theorem pairwise_of_steps {α : Type} (kn : α → Int) : ∀ l : List α, (∀ (i : Nat) (x : α), l[i]? = some x → ∀ y, (l.take i).getLast? = some y → kn y ≤ kn x) → (l.map kn).Pairwise (· ≤ ·) := by
  intro l h
  rw [List.pairwise_iff_getElem]
  have key : ∀ j : Nat, ∀ i : Nat, i ≤ j → ∀ (x y : α), l[i]? = some x → l[j]? = some y → kn x ≤ kn y := by
    intro j
    induction j with
    | zero =>
      intro i hi x y hx hy
      obtain rfl : i = 0 := by omega
      rw [hx] at hy; cases hy; exact Int.le_refl _
    | succ j ih =>
      intro i hi x y hx hy
      by_cases e : i = j + 1
      · subst e; rw [hx] at hy; cases hy; exact Int.le_refl _
      · have hj : j + 1 < l.length := (List.getElem?_eq_some_iff.1 hy).1
        have h1 := h (j + 1) y hy l[j] (by rw [List.getLast?_eq_getElem?, List.length_take, Nat.min_eq_left (by omega), Nat.add_sub_cancel, List.getElem?_take_of_lt (by omega)]; simp)
        have h2 := ih i (by omega) x l[j] hx (by simp)
        omega
  intro i j hi hj hij
  rw [List.length_map] at hi hj
  rw [List.getElem_map, List.getElem_map]
  exact key j i (by omega) _ _ (by simp) (by simp)

theorem known_sorted {l : List Rate} (h : (checkRates l).2 = 0) : (l.map Rate.known).Pairwise (· ≤ ·) :=
  pairwise_of_steps Rate.known l (fun i x hx y hy => by
    have := (followsR_parts (chkFrom_ok followsR [] l h i x hx)).2.2.1 y
    rw [List.nil_append] at this
    exact this hy)

theorem any_early {l : List Rate} {h : Head} {K : Int} : (l.map Rate.head).any (fun v => voids h v K) = ((l.filter fun x => decide (x.known ≤ K)).map Rate.head).any (fun v => voids h v K) := by
  rw [List.any_map, List.any_map]
  induction l with
  | nil => rfl
  | cons a r ih =>
    rw [List.any_cons, ih]
    by_cases e : a.known ≤ K
    · rw [List.filter_cons_of_pos (by simpa using e), List.any_cons]
    · rw [List.filter_cons_of_neg (by simpa using e)]
      have : ((fun v => voids h v K) ∘ Rate.head) a = false := by
        show (decide (a.of_ = h.id) && decide (a.known ≤ K)) = false
        simp [e]
      rw [this, Bool.false_or]

theorem counts_early {l : List Rate} {h : Head} {K : Int} : counts (l.map Rate.head) K h = counts ((l.filter fun x => decide (x.known ≤ K)).map Rate.head) K h := by
  unfold counts; rw [any_early]

theorem cntR_early (l : List Rate) (K : Int) : cntR (l.filter fun x => decide (x.known ≤ K)) K = cntR l K := by
  unfold cntR
  rw [List.filter_filter]
  refine List.filter_congr (fun x _ => ?_)
  rw [← counts_early]
  by_cases e : x.known ≤ K
  · simp [e]
  · have : ¬ x.head.known ≤ K := e
    unfold counts; simp [this]

theorem rates_early {l : List Rate} (h : (checkRates l).2 = 0) (K : Int) : (checkRates (l.filter fun x => decide (x.known ≤ K))).2 = 0 :=
  chkFrom_prefix followsR (filter_prefix Rate.known K l (known_sorted h)) h

theorem rateOf_early {l : List Rate} (h : (checkRates l).2 = 0) (goods : ByteArray) (hour K : Int) : rateOf (l.filter fun x => decide (x.known ≤ K)) goods hour K = rateOf l goods hour K := by
  unfold rateOf
  rw [if_pos h, if_pos (rates_early h K), inForce_eq, inForce_eq, cntR_early]

/-! ### Sales -/
theorem sellsS_parts {l : List Sale} {x : Sale} (h : sellsS l x = 0) : followsS l x = 0 ∧ (x.of_ = 0 → soldIn l x.parcel x.known = none) := by
  unfold sellsS at h
  by_cases h1 : followsS l x = 0
  · rw [if_pos h1] at h
    refine ⟨h1, fun h0 => ?_⟩
    cases hs : soldIn l x.parcel x.known with
    | none => rfl
    | some y => rw [hs, decide_eq_true h0] at h; simp at h
  · rw [if_neg h1] at h; exact absurd h h1

theorem followsS_parts {l : List Sale} {x : Sale} (h : followsS l x = 0) : l.length < 200 ∧ saleOk x = true ∧ (∀ y ∈ l, y.id ≠ x.id) ∧ (∀ y, l.getLast? = some y → y.known ≤ x.known) ∧ (x.of_ ≠ 0 → (∃ y ∈ l, y.id = x.of_ ∧ y.of_ = 0) ∧ ∀ y ∈ l, y.of_ ≠ x.of_) := by
  rw [followsS_eq] at h
  by_cases h1 : 200 ≤ l.length
  · rw [if_pos h1] at h; cases h
  rw [if_neg h1] at h
  cases hok : saleOk x
  · rw [hok] at h; cases h
  rw [hok] at h
  simp only [Bool.not_true, Bool.false_eq_true, if_false] at h
  by_cases h2 : (l.any fun y => decide (y.id = x.head.id)) = true
  · rw [if_pos h2] at h; cases h
  rw [if_neg h2] at h
  have h3 : (∀ y, l.getLast? = some y → y.known ≤ x.known) ∧ (if x.head.of_ = 0 then (0 : Int) else if !(l.any fun y => decide (y.id = x.head.of_) && decide (y.of_ = 0)) then 5 else if l.any (fun y => decide (y.of_ = x.head.of_)) then 6 else 0) = 0 := by
    cases hl : l.getLast? with
    | none => rw [hl] at h; exact ⟨(fun y hy => (by cases hy)), (by simpa using h)⟩
    | some z =>
      rw [hl] at h
      dsimp only at h
      by_cases h4 : decide (x.head.known < z.head.known) = true
      · rw [if_pos h4] at h; cases h
      · rw [if_neg h4] at h
        refine ⟨fun y hy => ?_, h⟩
        cases hy
        rw [decide_eq_true_eq] at h4
        show z.head.known ≤ x.head.known
        omega
  clear h
  obtain ⟨h3, h⟩ := h3
  refine ⟨by omega, rfl, fun y hy e => ?_, fun y hy => h3 y hy, fun h0 => ?_⟩
  · exact h2 (List.any_eq_true.2 ⟨y, hy, decide_eq_true e⟩)
  · have h0' : ¬ x.head.of_ = 0 := h0
    rw [if_neg h0'] at h
    by_cases h4 : (!(l.any fun y => decide (y.id = x.head.of_) && decide (y.of_ = 0))) = true
    · rw [if_pos h4] at h; cases h
    rw [if_neg h4] at h
    by_cases h5 : (l.any fun y => decide (y.of_ = x.head.of_)) = true
    · rw [if_pos h5] at h; cases h
    refine ⟨?_, fun y hy e => h5 (List.any_eq_true.2 ⟨y, hy, decide_eq_true e⟩)⟩
    rw [Bool.not_eq_true', Bool.not_eq_false] at h4
    obtain ⟨y, hy, hh⟩ := List.any_eq_true.1 h4
    rw [Bool.and_eq_true, decide_eq_true_eq, decide_eq_true_eq] at hh
    exact ⟨y, hy, hh⟩

theorem checkSales_step {l : List Sale} (h : (checkSales l).2 = 0) (i : Nat) (x : Sale) (hx : l[i]? = some x) : sellsS (l.take i) x = 0 := by
  have := chkFrom_ok sellsS [] l h i x hx
  rw [List.nil_append] at this; exact this

theorem known_sortedS {l : List Sale} (h : (checkSales l).2 = 0) : (l.map Sale.known).Pairwise (· ≤ ·) :=
  pairwise_of_steps Sale.known l (fun i x hx y hy => (followsS_parts (sellsS_parts (checkSales_step h i x hx)).1).2.2.2.1 y hy)

theorem checkSales_ok {l : List Sale} (h : (checkSales l).2 = 0) : ∀ x ∈ l, saleOk x = true := fun x hx => by
  obtain ⟨i, hi⟩ := List.mem_iff_getElem?.1 hx
  exact (followsS_parts (sellsS_parts (checkSales_step h i x hi)).1).2.1

theorem checkSales_len {l : List Sale} (h : (checkSales l).2 = 0) : l.length ≤ 200 := by
  by_cases e : l.length = 0
  · omega
  · have := (followsS_parts (sellsS_parts (checkSales_step h (l.length - 1) (l[l.length - 1]'(by omega)) (by simp))).1).1
    rw [List.length_take] at this; omega

theorem any_earlyS {l : List Sale} {h : Head} {K : Int} : (l.map Sale.head).any (fun v => voids h v K) = ((l.filter fun x => decide (x.known ≤ K)).map Sale.head).any (fun v => voids h v K) := by
  rw [List.any_map, List.any_map]
  induction l with
  | nil => rfl
  | cons a r ih =>
    rw [List.any_cons, ih]
    by_cases e : a.known ≤ K
    · rw [List.filter_cons_of_pos (by simpa using e), List.any_cons]
    · rw [List.filter_cons_of_neg (by simpa using e)]
      have : ((fun v => voids h v K) ∘ Sale.head) a = false := by
        show (decide (a.of_ = h.id) && decide (a.known ≤ K)) = false
        simp [e]
      rw [this, Bool.false_or]

theorem cntS_early (l : List Sale) (K : Int) : cntS (l.filter fun x => decide (x.known ≤ K)) K = cntS l K := by
  unfold cntS
  rw [List.filter_filter]
  refine List.filter_congr (fun x _ => ?_)
  unfold counts
  rw [← any_earlyS]
  by_cases e : x.known ≤ K
  · simp [e]
  · have : ¬ x.head.known ≤ K := e
    simp [this]

theorem sales_early {l : List Sale} (h : (checkSales l).2 = 0) (K : Int) : (checkSales (l.filter fun x => decide (x.known ≤ K))).2 = 0 :=
  chkFrom_prefix sellsS (filter_prefix Sale.known K l (known_sortedS h)) h

theorem saleOf_early {l : List Sale} (h : (checkSales l).2 = 0) (parcel K : Int) : saleOf (l.filter fun x => decide (x.known ≤ K)) parcel K = saleOf l parcel K := by
  unfold saleOf
  rw [if_pos h, if_pos (sales_early h K)]
  unfold soldIn
  rw [cntS_early]

theorem awPick_early {rs : List Rate} {ss : List Sale} (hr : (checkRates rs).2 = 0) (hs : (checkSales ss).2 = 0) (parcel : Int) (goods : ByteArray) (hour K : Int) :
    awPick (rs.filter fun x => decide (x.known ≤ K)) (ss.filter fun x => decide (x.known ≤ K)) parcel goods hour K = awPick rs ss parcel goods hour K := by
  unfold awPick
  rw [if_pos hr, if_pos (rates_early hr K), saleOf_early hs, rateOf_early hr]

/-! ### No parcel has two counting sales -/
theorem mem_cntS {l : List Sale} {k : Int} {x : Sale} : x ∈ cntS l k ↔ x ∈ l ∧ x.of_ = 0 ∧ x.known ≤ k ∧ ∀ v ∈ l, ¬ (v.of_ = x.id ∧ v.known ≤ k) := by
  unfold cntS counts
  rw [List.mem_filter, Bool.and_eq_true, Bool.and_eq_true, decide_eq_true_eq, decide_eq_true_eq, Bool.not_eq_true', List.any_map, List.any_eq_false]
  constructor
  · rintro ⟨h1, ⟨h2, h3⟩, h4⟩
    refine ⟨h1, h2, h3, fun v hv hh => h4 v hv ?_⟩
    show (decide (v.of_ = x.id) && decide (v.known ≤ k)) = true
    rw [Bool.and_eq_true, decide_eq_true_eq, decide_eq_true_eq]; exact hh
  · rintro ⟨h1, h2, h3, h4⟩
    refine ⟨h1, ⟨h2, h3⟩, fun v hv hh => h4 v hv ?_⟩
    have hh' : (decide (v.of_ = x.id) && decide (v.known ≤ k)) = true := hh
    rwa [Bool.and_eq_true, decide_eq_true_eq, decide_eq_true_eq] at hh'

theorem saleOk_id {x : Sale} (h : saleOk x = true) : 1 ≤ x.id := by
  unfold saleOk at h
  simp only [Bool.and_eq_true, inn_iff] at h
  exact h.1.1.1

theorem parcels_strict {l : List Sale} (h : (checkSales l).2 = 0) (K : Int) : ((cntS l K).map Sale.parcel).Nodup := by
  have hk := known_sortedS h
  have key : ∀ (i j : Nat) (x y : Sale), l[i]? = some x → l[j]? = some y → i < j → x ∈ cntS l K → y ∈ cntS l K → x.parcel ≠ y.parcel := by
    intro i j x y hx hy hij cx cy e
    obtain ⟨_, a2, a3, a4⟩ := mem_cntS.1 cx
    obtain ⟨_, b2, b3, b4⟩ := mem_cntS.1 cy
    have hs := (sellsS_parts (checkSales_step h j y hy)).2 b2
    have hxk : x.known ≤ y.known := by
      have h1 := (List.getElem?_eq_some_iff.1 hx)
      have h2 := (List.getElem?_eq_some_iff.1 hy)
      obtain ⟨h1, h1'⟩ := h1
      obtain ⟨h2, h2'⟩ := h2
      have := List.pairwise_iff_getElem.1 hk i j (by simpa using h1) (by simpa using h2) hij
      rw [List.getElem_map, List.getElem_map, h1', h2'] at this
      exact this
    unfold soldIn at hs
    rw [List.find?_eq_none] at hs
    refine hs x ?_ (by simpa using e)
    refine mem_cntS.2 ⟨?_, a2, hxk, fun v hv hvv => a4 v (List.mem_of_mem_take hv) ⟨hvv.1, by omega⟩⟩
    exact List.mem_iff_getElem?.2 ⟨i, by rw [List.getElem?_take_of_lt hij]; exact hx⟩
  rw [List.nodup_iff_pairwise_ne, List.pairwise_map]
  unfold cntS at *
  generalize hp : (fun x : Sale => counts (l.map Sale.head) K x.head) = p at *
  have hl : ∀ (i j : Nat) (x y : Sale), l[i]? = some x → l[j]? = some y → i < j → p x = true → p y = true → x.parcel ≠ y.parcel := fun i j x y hx hy hij px py =>
    key i j x y hx hy hij (List.mem_filter.2 ⟨List.mem_iff_getElem?.2 ⟨i, hx⟩, px⟩) (List.mem_filter.2 ⟨List.mem_iff_getElem?.2 ⟨j, hy⟩, py⟩)
  clear key hk h hp
  rw [List.pairwise_filter, List.pairwise_iff_getElem]
  intro i j hi hj hij px py
  exact hl i j _ _ (by simp) (by simp) hij px py

def soldOf (l : List Sale) (K : Int) : List Int := if (checkSales l).2 = 0 then ((cntS l K).map Sale.parcel).mergeSort fun x y => decide (x ≤ y) else []

theorem soldOf_strict {l : List Sale} (h : (checkSales l).2 = 0) (K : Int) : (soldOf l K).Pairwise (· < ·) := by
  unfold soldOf
  rw [if_pos h]
  exact sorted_strict (parcels_strict h K)

theorem find_parcel {l : List Sale} (hn : (l.map Sale.parcel).Nodup) {x : Sale} (hx : x ∈ l) : l.find? (fun y => decide (y.parcel = x.parcel)) = some x := by
  induction l with
  | nil => simp at hx
  | cons a r ih =>
    rw [List.map_cons, List.nodup_cons] at hn
    rcases List.mem_cons.1 hx with rfl | hx
    · rw [List.find?_cons_of_pos (by simp)]
    · have : a.parcel ≠ x.parcel := fun e => hn.1 (e ▸ List.mem_map.2 ⟨x, hx, rfl⟩)
      rw [List.find?_cons_of_neg (by simpa using this)]
      exact ih hn.2 hx

theorem saleOf_sold {l : List Sale} (h : (checkSales l).2 = 0) (K : Int) {p : Int} (hp : p ∈ soldOf l K) : ∃ x ∈ l, saleOf l p K = (x, 0) ∧ x.parcel = p ∧ 1 ≤ x.price ∧ x.price ≤ 1000000000 ∧ soldIn l p K = some x := by
  unfold soldOf at hp
  rw [if_pos h, List.mem_mergeSort] at hp
  obtain ⟨x, hx, rfl⟩ := List.mem_map.1 hp
  have hf := find_parcel (parcels_strict h K) hx
  obtain ⟨m1, m2, _⟩ := mem_cntS.1 hx
  have hok := checkSales_ok h x m1
  have hb := saleOk_bounds hok (by omega)
  have hs : soldIn l x.parcel K = some x := hf
  refine ⟨x, m1, ?_, rfl, hb.2.2.2.2.1, hb.2.2.2.2.2.1, hs⟩
  unfold saleOf
  rw [if_pos h, hs]

theorem soldOf_len {l : List Sale} (K : Int) : (soldOf l K).length ≤ l.length := by
  unfold soldOf
  split
  · rw [List.length_mergeSort, List.length_map]
    exact List.length_filter_le _ _
  · simp

/-! ### Value -/
def priceSum (l : List Sale) (K : Int) : List Int → Int
  | [] => 0
  | p :: r => (match soldIn l p K with | some x => x.price | none => 0) + priceSum l K r

def valueOf (l : List Sale) (parcels : List Int) (K : Int) : Int × Int :=
  if (checkSales l).2 = 0 then
    if 200 < parcels.length then (0, 2) else
    if ¬ parcels.Nodup then (0, 6) else
    if (parcels.any fun p => (soldIn l p K).isNone) then (0, 61) else
    if 1000000000000 < priceSum l K parcels then (0, 2) else (priceSum l K parcels, 0)
  else (0, (checkSales l).2)

theorem priceSum_perm {l : List Sale} {K : Int} {a b : List Int} (h : a.Perm b) : priceSum l K a = priceSum l K b := by
  induction h with
  | nil => rfl
  | cons x _ ih => rw [priceSum, priceSum, ih]
  | swap x y r => rw [priceSum, priceSum, priceSum, priceSum]; omega
  | trans _ _ h1 h2 => rw [h1, h2]

theorem priceSum_append {l : List Sale} {K : Int} (a b : List Int) : priceSum l K (a ++ b) = priceSum l K a + priceSum l K b := by
  induction a with
  | nil => rw [List.nil_append, priceSum]; omega
  | cons x r ih => rw [List.cons_append, priceSum, priceSum, ih]; omega

theorem price_one {l : List Sale} (h : (checkSales l).2 = 0) {p K : Int} : 0 ≤ (match soldIn l p K with | some x => x.price | none => 0) ∧ (match soldIn l p K with | some x => x.price | none => 0) ≤ 1000000000 := by
  cases hs : soldIn l p K with
  | none => simp
  | some x =>
    have h1 := List.mem_of_find?_eq_some (show (cntS l K).find? (fun x => decide (x.parcel = p)) = some x from hs)
    obtain ⟨m1, m2, _⟩ := mem_cntS.1 h1
    have hb := saleOk_bounds (checkSales_ok h x m1) (by omega)
    dsimp only
    omega

theorem priceSum_bound {l : List Sale} (h : (checkSales l).2 = 0) (K : Int) (a : List Int) : 0 ≤ priceSum l K a ∧ priceSum l K a ≤ 1000000000 * a.length := by
  induction a with
  | nil => simp [priceSum]
  | cons p r ih =>
    have := price_one h (p := p) (K := K)
    rw [priceSum, List.length_cons]
    omega

theorem valueOf_perm {l : List Sale} (h : (checkSales l).2 = 0) (hlen : l.length ≤ 200) (K : Int) {b : List Int} (hp : b.Perm (soldOf l K)) : valueOf l b K = (priceSum l K (soldOf l K), 0) := by
  have hl := soldOf_len (l := l) K
  have hbl := hp.length_eq
  have hnd : (soldOf l K).Nodup := (soldOf_strict h K).imp (fun h => by omega)
  unfold valueOf
  rw [if_pos h, if_neg (by omega), if_neg (fun e => e (hp.nodup_iff.2 hnd)), if_neg, priceSum_perm hp, if_neg]
  · have := (priceSum_bound h K (soldOf l K)).2; omega
  · intro e
    obtain ⟨p, hpb, hn⟩ := List.any_eq_true.1 e
    obtain ⟨x, _, _, _, _, _, hs⟩ := saleOf_sold h K (hp.mem_iff.1 hpb)
    rw [hs] at hn; cases hn

/-- A list turned round. -/
theorem turned_perm (s : List Int) (t : Nat) : ((List.range s.length).map fun i => s.getD ((i + t) % s.length) 0).Perm s := by
  by_cases h0 : s.length = 0
  · have : s = [] := List.length_eq_zero_iff.1 h0
    subst this; simp
  have ht : t % s.length < s.length := Nat.mod_lt _ (by omega)
  have e : (List.range s.length).map (fun i => s.getD ((i + t) % s.length) 0) = s.drop (t % s.length) ++ s.take (t % s.length) := by
    apply List.ext_getElem
    · simp; omega
    · intro i h1 h2
      have hi : i < s.length := by simpa using h1
      rw [List.getElem_map, List.getElem_range]
      have em : (i + t) % s.length = (i + t % s.length) % s.length := by simp [Nat.add_mod]
      rw [em]
      by_cases hc : i + t % s.length < s.length
      · rw [Nat.mod_eq_of_lt hc, List.getElem_append_left (by simp; omega), List.getElem_drop]
        simp [List.getD, Nat.add_comm i, show t % s.length + i < s.length by omega]
      · have e2 : (i + t % s.length) % s.length = i + t % s.length - s.length := by
          rw [Nat.mod_eq_sub_mod (by omega), Nat.mod_eq_of_lt (by omega)]
        rw [e2, List.getElem_append_right (by simp; omega), List.getElem_take]
        have e3 : i + t % s.length - s.length < s.length := by omega
        simp only [List.getD, List.getElem?_eq_getElem e3, Option.getD_some, List.length_drop]
        congr 1
        omega
  rw [e]
  exact (List.perm_append_comm).trans (by rw [List.take_append_drop])

end Lg

/-
  Walk: the parcels that were sold.
-/
namespace Go.Proofs.YtollegoajlfdiaaGreat
open Go.RowKit Lg Go.Sort Go.Shelf

attribute [local go_sem] Oper.semAt_some

theorem own_own {W W' : World} {row : Option Nat} {base n0 : Nat} {e : TypeId} {k : Nat} {v : Value} {n : Nat} {xs : List Value} (h : W.ownsRow base e k v n xs) (hg : W.grownBy W' row)
    (hr : ∀ r, row = some r → n0 ≤ r ∧ ∃ o : Obj, W.heap[r]? = some o ∧ o.isCells = false) : W'.ownsRow base e k v n xs := by
  refine h.kept hg ?_
  rcases h.2 with ⟨rfl, _⟩ | ⟨g, cap, cur, rfl, hb, hgg, _⟩
  · exact .inl rfl
  · right
    intro e
    obtain ⟨_, o, ho, hc⟩ := hr g e.symm
    rw [hgg] at ho; cases ho; cases hc

theorem own_cells {W : World} {base : Nat} {e : TypeId} {k : Nat} {v : Value} {n : Nat} {xs : List Value} (h : W.ownsRow base e k v n xs) : ∀ (j : Nat) (o : Obj), v.ownBlock = some j → W.heap[j]? = some o → o.isCells = true := by
  intro j o hj ho
  rcases h.2 with ⟨rfl, _⟩ | ⟨g, cap, cur, rfl, hb, hgg, _⟩
  · cases hj
  · simp [Value.ownBlock] at hj
    subst hj
    rw [hgg] at ho; cases ho; rfl

theorem results_one {P : Program} {fn : Func} {t : Tmp} (h : fn.results = #[.tmp t]) (tmps : Array Value) (w : World) : (results fn tmps).run P w = .ok (tmps.getD t undef) w := by
  simp [results, h]

theorem wpListIn_append_lies {F : Fence} {n : Nat} {P : Program} (w : World) {ops : Array Oper} {rest : List Oper} {o : Oper} {a : Act} {Q : Exit → Act → World → Prop}
    (hg : o.guard = none) (s x : Operand) (t : TypeId) (hop : o.op = Op.call { callee := Callee.builtin Builtin.append, args := #[s, x], argTypes := #[t, t] })
    (base : Nat) (e : TypeId) (i : TypeInfo) (z : Value) (size bytes : Nat) (h1 : P.underlying t = some (.slice e)) (h2 : P.info? e = some i) (h3 : i.zero = some z) (h4 : i.size = size) (h5 : i.bytes = bytes) (h6 : z.cells.size = size) (h7 : 0 < size)
    (v : Value) (k : Nat) (xs : List Value) (hs : a.eval s = v) (hown : w.ownsRow base e size v k xs) (ad : Addr) (m c : Nat) (news : List Value) (hx : a.eval x = .slice (some ad) m c) (hn : news.length = m * size)
    (hc : ∀ j u, news[j]? = some u → w.cell? (ad.add j) = some u) (h1c : ∀ u ∈ news, u.oneCell' = true) (hm : 0 < m) (b1 : k + m ≤ maxLen) (b2 : (k + m) * bytes ≤ 140737488355328) (b3 : base ≤ w.heap.size)
    (hK : ∀ g cap w', w'.ownsRow base e size (.slice (some ⟨g, 0, none⟩) (k + m) cap) (k + m) (xs ++ news) → w.grownBy w' v.ownBlock → wpListIn F n P ops Q rest (a.put o.dst (.slice (some ⟨g, 0, none⟩) (k + m) cap)) w') :
    wpListIn F n P ops Q (o :: rest) a w := by
  refine wpListIn_plain hg fun K hK' => ?_
  obtain ⟨g, cap, w', hrun, r1, r2, _, _⟩ := run_append_lies (P := P) w t o.type base e i z size bytes h1 h2 h3 h4 h5 h6 h7 v k xs hown ad m c news hn hc h1c hm b1 b2 b3 _ rfl
  unfold Oper.wpIn
  refine ⟨?_, ?_⟩
  · simp [Oper.about, hop, resolve, Target.leads, Sem.run_pure]
  · rw [Oper.semAt_plain F _ _ (by rw [hop]; intro c hc'; cases hc')]
    simp [execOp, hop, resolve, invoke, builtin, hs, hx, hrun, Result.andThen]
    exact hK' _ _ (hK g cap w' r1 r2)

/-- What holds between two rounds. -/
def PP (w w1 : World) (W2 : World) (pre : List Sale) (W : World) : Prop :=
  ∃ v, Blk W w1.heap.size #[v] 35 ∧ W.ownsRow W2.heap.size 3 1 v pre.length ((pre.map Sale.parcel).map (Value.int .i64)) ∧ Below w.heap.size w W ∧ W2.heap.size ≤ W.heap.size

set_option maxRecDepth 100000 in
set_option maxHeartbeats 1600000 in
theorem Sold_any (a : Option Addr) (m cap : Nat) (xs : List Sale) (known : Int) (w : World) (hL : Lst w 9 cS a m cap xs) :
    Calls Tryz.prog 51 #[.slice a m cap, .int .i64 known] w (GivesI w (soldOf xs known)) := by
  have hc := fun W hW => checkSales_any a m cap xs W hW
  have hso : soldOf xs known = if (checkSales xs).2 = 0 then ((cntS xs known).map Sale.parcel).mergeSort fun x y => decide (x ≤ y) else [] := rfl
  by_cases h0 : (checkSales xs).2 = 0
  · rw [if_pos h0] at hso
    have hlen200 := checkSales_len h0
    rw [h0] at hc
    have Hso := Lib.hid hso
    generalize (checkSales xs).1 = ci at hc
    clear hso h0
    obtain ⟨i0, hi0, hz0, hz1, hz2⟩ := info_parts infoI
    refine (callsIn_wide (n := 3)).1 ?_
    have hw89 : Fence.wide.fn 89 := trivial
    have hw33 : Fence.wide.fn 33 := trivial
    have hwS : Fence.wide.fn 90 := trivial
    refine callsIn_of_wp_marks Tryz.func51 rfl trivial ?_ rfl
    simp only [Tryz.ntmps51, List.size_toArray, List.length_cons, List.length_nil, Nat.reduceAdd, Nat.reduceSub, Array.replicate_succ, Array.replicate_zero, List.push_toArray, List.append_toArray, List.nil_append, List.cons_append]
    gi_wp2_with (first
      | (gi_at_call 33; refine (callsIn_wide.2 (hc w hL)).mono ?_; rintro e w1 ⟨rfl, hB1⟩)
      | (gi_at_call 89; refine (callsIn_wide.2 (countingS_any _ _ _ _ _)).mono ?_; rintro e w' ⟨rfl, rfl⟩))
    obtain ⟨W0, hW0⟩ : ∃ W0, W0 = w1.alloc (.cells #[.slice none 0 0] 35) := ⟨_, rfl⟩
    rw [← hW0]
    obtain ⟨W2, hW2⟩ : ∃ W2, W2 = (W0.alloc (.cells #[.slice a m cap] 54)).alloc (.cells #[.int .i64 known] 3) := ⟨_, rfl⟩
    rw [← hW2]
    have hsz0 : W0.heap.size = w1.heap.size + 1 := by rw [hW0]; simp
    have hsz2 : W2.heap.size = w1.heap.size + 3 := by rw [hW2]; simp [hsz0]
    have j1 := Blk.new w1 35 #[.slice none 0 0]
    have hB0 : Below w.heap.size w W0 := hW0 ▸ hB1.alloc hB1.size _
    have hB2 : Below w.heap.size w W2 := hW2 ▸ (hB0.alloc hB0.size _).alloc (by have := hB0.size; simp; omega) _
    have k1 : Blk W2 w1.heap.size #[.slice none 0 0] 35 := by rw [hW2, hW0]; exact (j1.alloc _).alloc _
    have hLw := hL.below hB0
    have hst := countingS_stops 2 (by omega) a m cap xs known W0 W2 hW2 hLw
    clear j1 hW0 hW2 hB0
    rw [hsz0] at hst
    clear hsz0
    have hsw := hB1.size
    have hSlt : ∀ k, (k = w1.heap.size + 1 ∨ k = w1.heap.size + 1 + 1 ∨ (xs ≠ [] ∧ ∃ off, a = some ⟨k, off, none⟩)) → k < W2.heap.size ∧ k ≠ w1.heap.size ∧ (w1.heap.size + 3 ≤ k → False) := by
      rintro k (rfl | rfl | ⟨hne, off, ha⟩)
      · omega
      · omega
      · obtain ⟨x, xs', rfl⟩ := List.exists_cons_of_ne_nil hne
        obtain ⟨b, off', ha', hlt, _⟩ := hL.at_ 0 x rfl
        rw [ha] at ha'; cases ha'; omega
    refine wpIn_rangeFunc_ownH rfl (by omega) (gf := 127) rfl trivial (enters_of Tryz.func127 (by kernel_rfl) rfl) hst (fun h k => KpOn.trans h k) ?hKb (Below.refl _ _) (fun _ => rfl)
      (PP w w1 W2) (fun _ _ _ => False) ?hI (fun _ _ _ _ _ hs _ _ => hs) ⟨_, k1, ⟨by simp, .inl ⟨rfl, rfl⟩⟩, hB2, Nat.le_refl _⟩
      (fun x a' W => ∃ Bx, W2.heap.size ≤ Bx ∧ Blk W Bx #[.int .i64 x.id, .int .i64 x.known, .int .i64 x.hour, .int .i64 x.parcel, .int .i64 x.price, .int .i64 x.carter, .int .i64 x.keeper, .int .i64 x.since, .int .i64 x.of_] 39 ∧ a' = { tmps := #[.slice a m cap, .int .i64 known, undef, undef, .slice none 0 0, .int .i64 ci, .int .i64 0, .pointer (some ⟨w1.heap.size, 0, none⟩), .pointer (some ⟨Bx, 0, none⟩), .tuple #[.int .i64 ci, .int .i64 0], .slice a m cap, .tuple #[.int .i64 ci, .int .i64 0], .int .i64 ci, .int .i64 0, .int .i64 0, .bool false, .slice a m cap, .int .i64 known, .func (.func 127) #[] #[.pointer (some ⟨w1.heap.size + 1, 0, none⟩), .pointer (some ⟨w1.heap.size + 1 + 1, 0, none⟩)], aS x, undef, undef, undef, undef, undef, undef, undef, undef], defers := [] })
      (fun x a' s A B row hs hg hr => hs.imp fun Bx h => ⟨h.1, h.2.1.own hg hr, h.2.2⟩) ?assign ?body ?done ?stop
    case hKb =>
      intro W l o o' hl ho hc hk
      refine ⟨by simp, fun k hS => World.putObj_heap_other (fun e => ?_)⟩
      have := hSlt k hS
      omega
    case hI =>
      rintro pre A B row ⟨v, h1, ho, hB, hs⟩ hg hr
      exact ⟨v, h1.own hg hr, own_own ho hg hr, hB.grown hg hB.size (fun k e => by have := (hr k e).1; omega), Nat.le_trans hs hg.size⟩
    case assign =>
      rintro l pre x W K ⟨v, h1, ho, hB, hs⟩ hK
      gi_wp2
      exact hK _ _ ((KeepsOthers.alloc _ _).from _) ⟨by simp, fun k hS => Below.heap_alloc _ _ _ (by have := hSlt k hS; omega)⟩ ⟨v, h1.alloc _, ho.alloc _, hB.alloc hB.size _, by simp; omega⟩ ⟨W.heap.size, hs, Blk.new _ _ _, rfl⟩
    case body =>
      rintro l pre x a' W hl ⟨r, hr⟩ ⟨v, h1, ho, hB, hs⟩ ⟨Bx, hBx, bX, rfl⟩ hlt
      have c1 := h1.cell
      have f1 := h1.frozen
      have cX := bX.cell
      have hpl : pre.length ≤ 200 := by omega
      have HSlt := Lib.hid hSlt
      have hsz3 : w1.heap.size + 3 ≤ W2.heap.size := by omega
      clear hst k1 hr hl hlt bX hSlt hc hLw hw89 hw33 hwS hsz2
      gi_wp2_with (first
        | (gi_at_builtin; refine wpListIn_append_lies _ rfl _ _ _ rfl W2.heap.size 3 i0 _ 1 8 Tryz.underlying35 hi0 hz0 hz1 hz2 rfl (by omega) _ pre.length ((pre.map Sale.parcel).map (Value.int .i64)) rfl (ho.alloc _) ⟨W.heap.size, 0, none⟩ 1 1 [.int .i64 x.parcel] rfl rfl (World.news_of_block (cs := #[.int .i64 x.parcel]) (t := 3) (fr := (0, 0)) (heap_alloc_new W _)) (by simp [Value.oneCell']) (by omega) (by unfold maxLen; omega) (by omega) (by simp; omega) ?_; intro g cap1 w3 hown3 hgrow; have hne : some w1.heap.size ≠ v.ownBlock := (fun e => by have := (ho.lt _ e.symm).1; omega); have h3 := (h1.alloc _).kept hgrow hne; have c3 := h3.cell; have f3 := h3.frozen; have l3 := h3.lt)
        | fail)
      have hko : KeepsOthers W (w3.setCell ⟨w1.heap.size, 0, none⟩ (.slice (some ⟨g, 0, none⟩) (pre.length + 1) cap1)) := ((KeepsOthers.alloc W _).trans (KeepsOthers.of_grownBy hgrow (own_cells (ho.alloc _)))).trans (KeepsOthers.setCell _ _ _)
      have hsz := hgrow.size
      simp only [World.size_alloc] at hsz
      refine ⟨hko.from _, ⟨hko.size, fun k hS => ?_⟩, (.slice (some ⟨g, 0, none⟩) (pre.length + 1) cap1), h3.setCell 0 (.slice (some ⟨g, 0, none⟩) (pre.length + 1) cap1), ?_, ?_, ?_⟩
      · have h4 := HSlt.out k hS
        rw [Below.heap_setCell _ ⟨w1.heap.size, 0, none⟩ _ k (by simpa using h4.2.1), hgrow.block k (by simp; omega) (fun e => by have := (ho.lt _ e.symm).1; omega)]
        exact Below.heap_alloc _ _ _ (by omega)
      · rw [List.length_append, List.map_append, List.map_append]
        exact own_set hown3 (by omega) 0 (.slice (some ⟨g, 0, none⟩) (pre.length + 1) cap1)
      · exact (below_of_grown (hB.alloc hB.size _) (Nat.le_refl _) hgrow (fun q e => by have := (ho.lt q e).1; omega)).setCell (p := ⟨w1.heap.size, 0, none⟩) hsw _
      · have : (w3.setCell ⟨w1.heap.size, 0, none⟩ (.slice (some ⟨g, 0, none⟩) (pre.length + 1) cap1)).heap.size = w3.heap.size := by simp [World.setCell]
        omega
    case done =>
      rintro D ys W hD rfl ⟨v, h1, ho, hB, hs⟩ hK
      have hyl : (cntS xs known).length ≤ 200 := Nat.le_trans (List.length_filter_le _ _) hlen200
      have c1 := h1.cell
      have hcS := sortOwn W2.heap.size (cntS xs known).length v ((cntS xs known).map Sale.parcel) W (by omega) ho
      have hlm : ((cntS xs known).map Sale.parcel).length = (cntS xs known).length := List.length_map ..
      generalize (cntS xs known).length = ln at *
      generalize (cntS xs known).map Sale.parcel = ps at *
      have HSlt := Lib.hid hSlt
      clear hst k1 hSlt hc hLw
      gi_wp2_with (first
        | (gi_at_call 90; refine (callsIn_wide.2 hcS).mono ?_; rintro e w3 ⟨rfl, ho3, hg3⟩; have hne : some w1.heap.size ≠ v.ownBlock := (fun e => by have := (ho.lt _ e.symm).1; omega); have h3 := h1.kept hg3 hne; have c3 := h3.cell)
        | fail)
      have hneD : some D ≠ v.ownBlock := fun e => by
        have := own_cells ho D _ e.symm hK
        cases this
      have hK3 : w3.heap[D]? = some (.deferred (some [])) := (hg3.block D (Array.getElem?_eq_some_iff.1 hK).1 hneD).trans hK
      refine ⟨by simp, .inl ⟨_, _, rfl, run_takeDeferred hK3, ?_⟩⟩
      refine ⟨_, results_one rfl _ _, ?_⟩
      have hB3 := below_of_grown hB (Nat.le_refl _) hg3 (fun q e => by have := (ho.lt q e).1; omega)
      refine ⟨v, rfl, ?_, hB3.trans (belowK_b (w := w) (Nat.le_refl _) w3 D _ _ (by omega) hK3 rfl rfl)⟩
      rw [Hso.out]
      have h5 := ho3.kept (grownBy_putObj' w3 D (.deferred none)) (.inr (fun e => hneD e.symm))
      have hl2 : (ps.mergeSort fun x y => decide (x ≤ y)).length = ln := by rw [List.length_mergeSort]; exact hlm
      rw [hl2]
      exact ownsRow_base_a h5 (by omega)
    case stop =>
      rintro D c pre W _ _ h _
      exact h.elim
  · rw [if_neg h0] at hso
    have Hso := Lib.hid hso
    have hc := hc w hL
    generalize (checkSales xs).2 = q at *
    generalize (checkSales xs).1 = ci at *
    have g0 : (q != 0) = true := by simpa using h0
    clear h0 hL hso
    go_enter Tryz.func51, Tryz.ntmps51
    go_wp2_with (fail)
    refine hc.mono ?_
    rintro e w2 ⟨rfl, hB2⟩
    go_wp2_with (fail)
    go_ret
    refine ⟨.slice none 0 0, rfl, ?_, hB2⟩
    rw [Hso.out]
    exact ⟨by simp, .inl ⟨rfl, rfl⟩⟩

end Go.Proofs.YtollegoajlfdiaaGreat

/-
  Walk: what parcels were sold for together.
-/
namespace Go.Proofs.YtollegoajlfdiaaGreat
open Go.RowKit Lg Go.Sort Go.Shelf Go.Maps

theorem priceSum_snoc (l : List Sale) (K : Int) (ps : List Int) (k : Nat) (p : Int) (h : ps[k]? = some p) : priceSum l K (ps.take (k + 1)) = priceSum l K (ps.take k) + (match soldIn l p K with | some x => x.price | none => 0) := by
  obtain ⟨h1, h2⟩ := List.getElem?_eq_some_iff.1 h
  rw [List.take_succ_eq_append_getElem h1, h2, priceSum_append]
  (simp only [priceSum, Int.add_zero]) <;> (cases soldIn l p K <;> rfl)

set_option maxRecDepth 100000 in
set_option maxHeartbeats 3200000 in
theorem value_any (a : Option Addr) (m capS : Nat) (ss : List Sale) (b : Option Addr) (n cap : Nat) (ps : List Int) (known : Int) (w : World) (hS : Lst w 9 cS a m capS ss) (hL : Lst w 1 cI b n cap ps) (hwf : ∀ p ∈ ps, (Lit.int .i64 p).wf = true) :
    Calls Tryz.prog 49 #[.slice a m capS, .slice b n cap, .int .i64 known] w (Gives w (.tuple #[.int .i64 (valueOf ss ps known).1, .int .i64 (valueOf ss ps known).2])) := by
  have hc := checkSales_any a m capS ss w hS
  obtain ⟨r, hr⟩ : ∃ r, r = valueOf ss ps known := ⟨_, rfl⟩
  rw [← hr]
  unfold valueOf at hr
  rw [hL.len] at hr
  have Hlen := Lib.hid hL.len
  have hm : cap ≤ 9223372036854775807 := by have := hL.max; unfold maxLen at this; omega
  have hle := hL.le
  by_cases h0 : (checkSales ss).2 = 0
  · rw [if_pos h0] at hr
    have H0 := Lib.hid h0
    rw [h0] at hc
    clear h0
    generalize (checkSales ss).1 = ci at hc
    by_cases h1 : 200 < n
    · rw [if_pos h1] at hr
      subst hr
      have h1z : (200 : Int) < (n : Int) := by omega
      clear hS hL
      go_enter Tryz.func49, Tryz.ntmps49
      go_wp2_with (fail)
      refine hc.mono ?_
      rintro e w2 ⟨rfl, hB2⟩
      go_wp2_with (fail)
      go_ret2
      exact ⟨rfl, hB2⟩
    · rw [if_neg h1] at hr
      have h1z : ¬ (200 : Int) < (n : Int) := by omega
      have Hr := Lib.hid hr; clear hr
      have hmm := @run_makeMap Tryz.prog
      go_enter Tryz.func49, Tryz.ntmps49
      go_wp2_with (fail)
      refine hc.mono ?_
      clear hc
      rintro e w2 ⟨rfl, hB2⟩
      go_wp2_with (fail)
      obtain ⟨b0, hb0⟩ : ∃ b0, b0 = w2.heap.size := ⟨_, rfl⟩
      rw [← hb0]
      have hbw : w.heap.size ≤ b0 := by have := hB2.size; omega
      have Hb0 := Lib.hid hb0; clear hb0
      go_loopw [32] (fun i wr => ∃ k : Nat, k ≤ n ∧ i = .int .i64 k ∧ OwnSt b0 k (fun q => decide (q ∈ ps.take k)) wr ∧ Hid ((ps.take k).Nodup) ∧ RowKit.Below w.heap.size w wr) (fun i _ => n - (intOf i).toNat)
      case atStart =>
        refine ⟨0, Nat.zero_le _, rfl, ?_, Lib.hid (by simp), hB2.alloc hB2.size _⟩
        rw [Hb0.out]
        have := OwnSt.made w2
        simpa using this
      case round =>
        clear hmm
        obtain ⟨k, hk, rfl, hst, Hnd, hB⟩ := hrel
        by_cases hlt : k < n
        · have hltz : (k : Int) < (n : Int) := by omega
          obtain ⟨p, hp⟩ : ∃ p, ps[k]? = some p := ⟨ps[k]'(by rw [Hlen.out]; exact hlt), by simp⟩
          obtain ⟨bb, off, rfl, hbb, hrg⟩ := hL.at_ k p hp
          have c0 := rangeAt_below hB hbb hrg 0 _ rfl
          simp only [Nat.mul_one, Nat.add_zero] at c0
          have hw := hwf p (List.mem_of_getElem? hp)
          have hlk := hst.look p hw
          have htk : ps.take (k + 1) = ps.take k ++ [p] := by
            obtain ⟨h1, h2⟩ := List.getElem?_eq_some_iff.1 hp
            rw [List.take_succ_eq_append_getElem h1, h2]
          have Htk := Lib.hid htk
          have Hp := Lib.hid hp
          clear hrg htk hp
          obtain ⟨sn, hsn⟩ : ∃ sn, sn = decide (p ∈ ps.take k) := ⟨_, rfl⟩
          rw [← hsn] at hlk
          have Hsn := Lib.hid hsn
          clear hsn
          cases sn with
          | true =>
            have hr := Hr.out
            rw [if_pos (fun e => by
              have e2 : (ps.take (k + 1)).Nodup := e.sublist (List.take_sublist _ _)
              rw [Htk.out, List.nodup_append] at e2
              have := Hsn.out.symm
              rw [decide_eq_true_eq] at this
              exact e2.2.2 p this p (by simp) rfl)] at hr
            subst hr
            clear Hr
            go_wp2_with (fail)
            go_ret2
            exact ⟨rfl, hB⟩
          | false =>
            obtain ⟨D, hD1, hD2⟩ := hst
            have hkey : keyOf Tryz.prog 3 (.int .i64 p) = some (.int .i64 p) := keyOf_int_mk Tryz.underlying3 hw
            have HD2 := Lib.hid hD2; clear hD2
            go_wp2_with (first
              | (at_mapUpdate; refine wpList_mapUpdate_own _ rfl _ _ _ 96 rfl 3 4 lawI Tryz.underlying96 _ b0 k _ rfl hD1 (by unfold maxLen; omega) _ _ _ rfl rfl hkey _ [] (plainElem_bool Tryz.underlying4 true) ?_; intro w1 hown1 hgrow1)
              | fail)
            go_roundw
            case rel =>
              refine ⟨k + 1, by omega, by go_num, ⟨_, hown1, (HD2.out.put p).congr (fun q => ?_)⟩, Lib.hid ?_, below_of_grown hB (Nat.le_refl _) hgrow1 (fun q e => by cases e; omega)⟩
              · rw [Htk.out, Bool.eq_iff_iff]
                simp only [Bool.or_eq_true, decide_eq_true_eq, List.mem_append, List.mem_singleton]
                exact Or.comm
              · rw [Htk.out, List.nodup_append]
                refine ⟨Hnd.out, by simp, fun x hx y hy e => ?_⟩
                rw [List.mem_singleton] at hy
                subst hy e
                have := Hsn.out.symm
                rw [decide_eq_false_iff_not] at this
                exact this hx
            case measure => simp [intOf]; omega
        · obtain rfl : k = n := by omega
          have hnd := Hnd.out
          rw [List.take_of_length_le (by rw [Hlen.out]; exact Nat.le_refl _)] at hnd
          have hr := Hr.out
          rw [if_neg (by simpa using hnd)] at hr
          have Hr2 := Lib.hid hr
          clear hr hnd Hr hst hlt Hb0
          go_wp2_with (fail)
          go_loopw [13, 44] (fun s i wr2 => ∃ q : Nat, q ≤ k ∧ i = .int .i64 q ∧ s = .int .i64 (priceSum ss known (ps.take q)) ∧ Hid (∀ p ∈ ps.take q, (soldIn ss p known).isNone = false) ∧ RowKit.Below wr.heap.size wr wr2) (fun _ i _ => k - (intOf i).toNat)
          case atStart => exact ⟨0, Nat.zero_le _, rfl, rfl, Lib.hid (by simp), Below.refl _ _⟩
          case round =>
            obtain ⟨q, hq, rfl, rfl, Hall, hBr⟩ := hrel
            have hBw := hB.trans (hBr.mono hB.size)
            by_cases hlt : q < k
            · have hltz : (q : Int) < (k : Int) := by omega
              obtain ⟨p, hp⟩ : ∃ p, ps[q]? = some p := ⟨ps[q]'(by rw [Hlen.out]; exact hlt), by simp⟩
              obtain ⟨bb, off, rfl, hbb, hrg⟩ := hL.at_ q p hp
              have c0 := rangeAt_below hBw hbb hrg 0 _ rfl
              simp only [Nat.mul_one, Nat.add_zero] at c0
              have hpr := price_one H0.out (p := p) (K := known)
              have hsn := priceSum_snoc ss known ps q p hp
              have hsb := priceSum_bound H0.out known (ps.take q)
              have hlk : (ps.take q).length ≤ 200 := Nat.le_trans (List.length_take_le _ _) (by omega)
              obtain ⟨S, hS0⟩ : ∃ S, S = priceSum ss known (ps.take q) := ⟨_, rfl⟩
              rw [← hS0] at hsb hsn ⊢
              obtain ⟨sb1, sb2⟩ := hsb
              have sb3 : S ≤ 200000000000 := by omega
              have hall : (soldIn ss p known).isNone = false → ∀ y ∈ ps.take (q + 1), (soldIn ss y known).isNone = false := fun h y hy => by
                obtain ⟨h1, h2⟩ := List.getElem?_eq_some_iff.1 hp
                rw [List.take_succ_eq_append_getElem h1, h2, List.mem_append, List.mem_singleton] at hy
                rcases hy with hy | rfl
                · exact Hall.out y hy
                · exact h
              have hcs := fun W hW => sold_any a m capS ss p known W hW
              have hany : (soldIn ss p known).isNone = true → (ps.any fun p => (soldIn ss p known).isNone) = true := fun h => List.any_eq_true.2 ⟨p, List.mem_of_getElem? hp, h⟩
              have Hhall := Lib.hid hall
              have Hany := Lib.hid hany
              clear hrg hp hlk sb2 hS0 hall hany Hall
              cases ho : soldIn ss p known with
              | none =>
                have hr := Hr2.out
                rw [if_pos (Hany.out (by rw [ho]; rfl))] at hr
                subst hr
                rw [ho] at hcs
                simp only [show soldPair none = (zeroSale, false) from rfl] at hcs
                clear Hr2 hsn ho Hany Hhall
                go_wp2_with (fail)
                refine (hcs _ (hS.below hBw)).mono ?_
                rintro e w3 ⟨rfl, hB3⟩
                go_wp2_with (fail)
                go_ret2
                exact ⟨rfl, (hBw.trans (hB3.mono hBw.size)).alloc (by have := hBw.size; have := hB3.size; omega) _⟩
              | some x =>
                rw [ho] at hcs hsn hpr
                simp only [show soldPair (some x) = (x, true) from rfl] at hcs
                dsimp only at hsn hpr
                obtain ⟨x1, x2⟩ := hpr
                have Hsn := Lib.hid hsn
                have Ho := Lib.hid ho
                clear hsn ho Hany
                go_wp2_with (fail)
                refine (hcs _ (hS.below hBw)).mono ?_
                rintro e w3 ⟨rfl, hB3⟩
                go_wp2_with (fail)
                go_roundw
                case rel => exact ⟨q + 1, by omega, by go_num, by rw [Hsn.out], Lib.hid (Hhall.out (by rw [Ho.out]; rfl)), (hBr.trans (hB3.mono hBr.size)).alloc (by have := hBr.size; have := hB3.size; omega) _⟩
                case measure => simp [intOf]; omega
            · obtain rfl : q = k := by omega
              have hall := Hall.out
              rw [List.take_of_length_le (by rw [Hlen.out]; exact Nat.le_refl _)] at hall ⊢
              have hr := Hr2.out
              rw [if_neg (fun e => by
                obtain ⟨y, hy, h⟩ := List.any_eq_true.1 e
                rw [hall y hy] at h; cases h)] at hr
              generalize priceSum ss known ps = S at *
              by_cases hS : 1000000000000 < S
              · rw [if_pos hS] at hr
                subst hr
                clear Hr2 hall Hall
                go_wp2_with (fail)
                go_ret2
                exact ⟨rfl, hBw⟩
              · rw [if_neg hS] at hr
                subst hr
                clear Hr2 hall Hall
                go_wp2_with (fail)
                go_ret2
                exact ⟨rfl, hBw⟩
  · rw [if_neg h0] at hr
    subst hr
    generalize (checkSales ss).2 = q at *
    have g0 : (q != 0) = true := by simpa using h0
    clear h0 hS hL
    go_enter Tryz.func49, Tryz.ntmps49
    go_wp2_with (fail)
    refine hc.mono ?_
    rintro e w2 ⟨rfl, hB2⟩
    go_wp2_with (fail)
    go_ret2
    exact ⟨rfl, hB2⟩

end Go.Proofs.YtollegoajlfdiaaGreat
