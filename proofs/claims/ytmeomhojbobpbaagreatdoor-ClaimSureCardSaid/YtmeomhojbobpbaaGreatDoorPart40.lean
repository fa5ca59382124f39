import Derived.Test.YtmeomhojbobpbaaGreatDoorPart20
import Derived.Test.YtmeomhojbobpbaaGreatDoorPart39
import Derived.Test.YtmeomhojbobpbaaGreatDoorPart33
/-
  Plain law: what is sure is at most what each list says.
-/
namespace Lg
open Go

/-- The share of a party in a list of titles; 0 if there is none. -/
def shareAt (t : List Title) (p : Int) : Frac := match t.find? (fun x => decide (x.party = p)) with | some x => x.share | none => ⟨0, 1⟩

theorem titleOk_parts {x : Title} (h : titleOk x = true) : (0 ≤ x.party ∧ x.party ≤ 40) ∧ validF x.share = true ∧ 0 < x.share.num ∧ x.share.num ≤ x.share.den := by
  unfold titleOk at h
  simp only [Bool.and_eq_true, inn_iff, decide_eq_true_eq] at h
  exact ⟨h.1.1.1, h.1.1.2, h.1.2, h.2⟩

theorem listOk_parts : ∀ {t : List Title}, listOk t = true → (∀ x ∈ t, titleOk x = true) ∧ t.Pairwise (fun x y => x.party < y.party)
  | [], _ => ⟨fun _ h => by (cases h), List.Pairwise.nil⟩
  | [x], h => ⟨fun y hy => by rw [List.mem_singleton.1 hy]; exact h, List.pairwise_singleton _ _⟩
  | x :: y :: r, h => by
    unfold listOk at h
    simp only [Bool.and_eq_true, decide_eq_true_eq] at h
    obtain ⟨⟨h1, h2⟩, h3⟩ := h
    obtain ⟨h4, h5⟩ := listOk_parts h3
    refine ⟨fun z hz => ?_, List.pairwise_cons.2 ⟨fun z hz => ?_, h5⟩⟩
    · rcases List.mem_cons.1 hz with rfl | hz
      · exact h1
      · exact h4 z hz
    · rcases List.mem_cons.1 hz with rfl | hz
      · exact h2
      · exact Int.lt_trans h2 ((List.pairwise_cons.1 h5).1 z hz)

theorem find_party {t : List Title} (h : t.Pairwise (fun x y => x.party < y.party)) {x : Title} (hx : x ∈ t) : t.find? (fun y => decide (y.party = x.party)) = some x := by
  induction t with
  | nil => cases hx
  | cons y r ih =>
    obtain ⟨h1, h2⟩ := List.pairwise_cons.1 h
    rw [List.find?_cons]
    rcases List.mem_cons.1 hx with rfl | hx
    · simp
    · rw [decide_eq_false (by have := h1 x hx; omega)]
      exact ih h2 hx

theorem valid_le {a b : Frac} (ha : validF a = true) (hb : validF b = true) : (valQ a ≤ valQ b ↔ a.num * b.den ≤ b.num * a.den) := by
  have a1 := (validF_parts ha).1
  have b1 := (validF_parts hb).1
  have ha' : (0 : Rat) < (a.den : Rat) := by exact_mod_cast (show (0 : Int) < a.den by omega)
  have hb' : (0 : Rat) < (b.den : Rat) := by exact_mod_cast (show (0 : Int) < b.den by omega)
  have hp : (0 : Rat) < (a.den : Rat) * (b.den : Rat) := Rat.mul_pos ha' hb'
  have e1 : valQ a * ((a.den : Rat) * (b.den : Rat)) = (a.num : Rat) * (b.den : Rat) := by unfold valQ; grind
  have e2 : valQ b * ((a.den : Rat) * (b.den : Rat)) = (b.num : Rat) * (a.den : Rat) := by unfold valQ; grind
  constructor
  · intro h
    have := Rat.mul_le_mul_of_nonneg_right h (Rat.le_of_lt hp)
    rw [e1, e2] at this
    exact_mod_cast this
  · intro h
    refine Rat.le_of_mul_le_mul_right (c := (a.den : Rat) * (b.den : Rat)) ?_ hp
    rw [e1, e2]
    exact_mod_cast h

theorem cmpF_le {a b : Frac} (ha : validF a = true) (hb : validF b = true) : cmpF a b ≤ 0 ↔ valQ a ≤ valQ b := by
  rw [valid_le ha hb]
  unfold cmpF
  rw [ha, hb, if_pos (show (true && true) = true from rfl)]
  split
  · constructor <;> (intro _; omega)
  · split
    · constructor <;> (intro _; omega)
    · constructor <;> (intro _; omega)

theorem valQ_zero : valQ ⟨0, 1⟩ = 0 := by unfold valQ; grind
theorem valQ_one : valQ ⟨1, 1⟩ = 1 := by unfold valQ; grind
theorem valid0 : validF ⟨0, 1⟩ = true := by decide
theorem valid1 : validF ⟨1, 1⟩ = true := by decide

theorem title_pos {x : Title} (h : titleOk x = true) : 0 ≤ valQ x.share := by
  obtain ⟨_, h2, h3, _⟩ := titleOk_parts h
  rw [← valQ_zero, valid_le valid0 h2]
  show 0 * x.share.den ≤ x.share.num * 1
  omega

theorem shareAt_ok {t : List Title} (h : listOk t = true) (p : Int) : validF (shareAt t p) = true ∧ 0 ≤ valQ (shareAt t p) := by
  unfold shareAt
  cases hf : t.find? (fun x => decide (x.party = p)) with
  | none => exact ⟨valid0, by rw [valQ_zero]; exact Rat.le_refl⟩
  | some x =>
    have := (listOk_parts h).1 x (List.mem_of_find?_eq_some hf)
    exact ⟨(titleOk_parts this).2.1, title_pos this⟩

/-! ### The least and the greatest -/

theorem fold_min {ok : Frac → Prop} (hv : ∀ f, ok f → validF f = true) (l : List Frac) : ∀ m, ok m → (∀ f ∈ l, ok f) → ok (l.foldl (fun m f => if ltF f m then f else m) m) ∧ valQ (l.foldl (fun m f => if ltF f m then f else m) m) ≤ valQ m ∧ ∀ f ∈ l, valQ (l.foldl (fun m f => if ltF f m then f else m) m) ≤ valQ f := by
  induction l with
  | nil => intro m hm _; exact ⟨hm, Rat.le_refl, fun f hf => by cases hf⟩
  | cons g r ih =>
    intro m hm hl
    have hg := hl g List.mem_cons_self
    rw [List.foldl_cons]
    have hn : ok (if ltF g m then g else m) ∧ valQ (if ltF g m then g else m) ≤ valQ m ∧ valQ (if ltF g m then g else m) ≤ valQ g := by
      by_cases c : ltF g m = true
      · rw [if_pos c]
        refine ⟨hg, ?_, Rat.le_refl⟩
        rw [valid_le (hv g hg) (hv m hm)]
        unfold ltF at c
        rw [decide_eq_true_eq] at c
        omega
      · rw [if_neg c]
        refine ⟨hm, Rat.le_refl, ?_⟩
        rw [valid_le (hv m hm) (hv g hg)]
        unfold ltF at c
        rw [decide_eq_true_eq] at c
        omega
    obtain ⟨h1, h2, h3⟩ := ih _ hn.1 (fun f hf => hl f (List.mem_cons_of_mem _ hf))
    refine ⟨h1, Rat.le_trans h2 hn.2.1, fun f hf => ?_⟩
    rcases List.mem_cons.1 hf with rfl | hf
    · exact Rat.le_trans h2 hn.2.2
    · exact h3 f hf

theorem fold_max {ok : Frac → Prop} (hv : ∀ f, ok f → validF f = true) (l : List Frac) : ∀ m, ok m → (∀ f ∈ l, ok f) → ok (l.foldl (fun m f => if ltF m f then f else m) m) ∧ valQ m ≤ valQ (l.foldl (fun m f => if ltF m f then f else m) m) ∧ ∀ f ∈ l, valQ f ≤ valQ (l.foldl (fun m f => if ltF m f then f else m) m) := by
  induction l with
  | nil => intro m hm _; exact ⟨hm, Rat.le_refl, fun f hf => by cases hf⟩
  | cons g r ih =>
    intro m hm hl
    have hg := hl g List.mem_cons_self
    rw [List.foldl_cons]
    have hn : ok (if ltF m g then g else m) ∧ valQ m ≤ valQ (if ltF m g then g else m) ∧ valQ g ≤ valQ (if ltF m g then g else m) := by
      by_cases c : ltF m g = true
      · rw [if_pos c]
        refine ⟨hg, ?_, Rat.le_refl⟩
        rw [valid_le (hv m hm) (hv g hg)]
        unfold ltF at c
        rw [decide_eq_true_eq] at c
        omega
      · rw [if_neg c]
        refine ⟨hm, Rat.le_refl, ?_⟩
        rw [valid_le (hv g hg) (hv m hm)]
        unfold ltF at c
        rw [decide_eq_true_eq] at c
        omega
    obtain ⟨h1, h2, h3⟩ := ih _ hn.1 (fun f hf => hl f (List.mem_cons_of_mem _ hf))
    refine ⟨h1, Rat.le_trans hn.2.1 h2, fun f hf => ?_⟩
    rcases List.mem_cons.1 hf with rfl | hf
    · exact Rat.le_trans hn.2.2 h2
    · exact h3 f hf

/-- What stands in the lists for a party. -/
theorem sharesAt_ok {l : List (List Title)} (h : ∀ t ∈ l, listOk t = true) (p : Int) : ∀ f ∈ sharesAt l p, validF f = true ∧ 0 < f.num ∧ f.num ≤ f.den := by
  intro f hf
  unfold sharesAt at hf
  obtain ⟨t, ht, he⟩ := List.mem_filterMap.1 hf
  cases hx : t.find? (fun x => decide (x.party = p)) with
  | none => rw [hx] at he; cases he
  | some x =>
    rw [hx] at he
    simp only [Option.map_some, Option.some.injEq] at he
    subst he
    exact (titleOk_parts ((listOk_parts (h t ht)).1 x (List.mem_of_find?_eq_some hx))).2

theorem sharesAt_in {l : List (List Title)} {t : List Title} (ht : t ∈ l) {p : Int} {x : Title} (hx : t.find? (fun x => decide (x.party = p)) = some x) : x.share ∈ sharesAt l p := by
  unfold sharesAt
  rw [List.mem_filterMap]
  exact ⟨t, ht, by rw [hx]; rfl⟩

/-- A party that is in all lists. -/
theorem sharesAt_all {l : List (List Title)} {p : Int} (h : l.length ≤ (sharesAt l p).length) : ∀ t ∈ l, ∃ x, t.find? (fun x => decide (x.party = p)) = some x := by
  induction l with
  | nil => intro t ht; cases ht
  | cons u r ih =>
    have hle : (sharesAt r p).length ≤ r.length := List.length_filterMap_le _ _
    unfold sharesAt at h
    rw [List.filterMap_cons] at h
    cases hu : u.find? (fun x => decide (x.party = p)) with
    | none =>
      rw [hu] at h
      simp only [Option.map_none, List.length_cons] at h
      change r.length + 1 ≤ (sharesAt r p).length at h
      omega
    | some x =>
      rw [hu] at h
      simp only [Option.map_some, List.length_cons] at h
      change r.length + 1 ≤ (sharesAt r p).length + 1 at h
      intro t ht
      rcases List.mem_cons.1 ht with rfl | ht
      · exact ⟨x, hu⟩
      · exact ih (by omega) t ht

/-! ### Sums of shares -/

theorem sumGo_Q (l : List Frac) : ∀ acc, validF acc = true → (∀ f ∈ l, validF f = true) → (sumGo acc l).2 = 0 → validF (sumGo acc l).1 = true ∧ valQ (sumGo acc l).1 = valQ acc + (l.map valQ).sum := by
  induction l with
  | nil => intro acc ha _ _; exact ⟨ha, by simp [sumGo]; grind⟩
  | cons f r ih =>
    intro acc ha hl h
    unfold sumGo at h ⊢
    by_cases c : normOk (acc.num * f.den + f.num * acc.den) (acc.den * f.den) = true
    · rw [if_pos c] at h ⊢
      have e : plusO acc f = some (sumStep acc f) := by unfold plusO; rw [if_pos c]; rfl
      obtain ⟨v, q⟩ := plusO_Q ha (hl f List.mem_cons_self) e
      obtain ⟨h1, h2⟩ := ih _ v (fun g hg => hl g (List.mem_cons_of_mem _ hg)) h
      refine ⟨h1, ?_⟩
      rw [h2, q, List.map_cons, List.sum_cons]
      grind
    · rw [if_neg c] at h; cases h

theorem sumOf_Q {l : List Frac} (h : (sumOf l).2 = 0) : validF (sumOf l).1 = true ∧ valQ (sumOf l).1 = (l.map valQ).sum := by
  unfold sumOf at h ⊢
  split at h
  · cases h
  · split at h
    · cases h
    · rename_i h1 h2
      rw [if_neg h1, if_neg h2]
      have hv : ∀ f ∈ l, validF f = true := fun f hf => by
        rw [Bool.not_eq_true, List.any_eq_false] at h2
        have := h2 f hf
        simpa using this
      obtain ⟨h3, h4⟩ := sumGo_Q l ⟨0, 1⟩ valid0 hv h
      refine ⟨h3, ?_⟩
      rw [h4, valQ_zero]
      grind

theorem sum_le (n : Nat) (f g : Nat → Rat) (h : ∀ i, i < n → f i ≤ g i) : ((List.range n).map f).sum ≤ ((List.range n).map g).sum := by
  induction n with
  | zero => exact Rat.le_refl
  | succ n ih =>
    rw [List.range_succ, List.map_append, List.map_append, List.sum_append, List.sum_append]
    have h1 := ih (fun i hi => h i (by omega))
    have h2 := h n (by omega)
    simp only [List.map_cons, List.map_nil, List.sum_cons, List.sum_nil]
    grind

theorem sum_add (n : Nat) (f g : Nat → Rat) : ((List.range n).map fun i => f i + g i).sum = ((List.range n).map f).sum + ((List.range n).map g).sum := by
  induction n with
  | zero => simp; grind
  | succ n ih =>
    rw [List.range_succ, List.map_append, List.map_append, List.map_append, List.sum_append, List.sum_append, List.sum_append, ih]
    simp only [List.map_cons, List.map_nil, List.sum_cons, List.sum_nil]
    grind

theorem sum_one (n : Nat) (k : Nat) (v : Rat) : ((List.range n).map fun i => if i = k then v else 0).sum = if k < n then v else 0 := by
  induction n with
  | zero => simp
  | succ n ih =>
    rw [List.range_succ, List.map_append, List.sum_append, ih]
    simp only [List.map_cons, List.map_nil, List.sum_cons, List.sum_nil]
    by_cases a : k < n
    · rw [if_pos a, if_neg (by omega), if_pos (by omega)]; grind
    · rw [if_neg a]
      by_cases b : n = k
      · rw [if_pos b, if_pos (by omega)]; grind
      · rw [if_neg b, if_neg (by omega)]; grind

theorem sum_zero (n : Nat) : ((List.range n).map fun _ => (0 : Rat)).sum = 0 := by
  induction n with
  | zero => rfl
  | succ n ih => rw [List.range_succ, List.map_append, List.sum_append, ih]; simp; grind

theorem sum_titles : ∀ {t : List Title}, (∀ x ∈ t, titleOk x = true) → t.Pairwise (fun x y => x.party < y.party) → ((List.range 41).map fun i : Nat => valQ (shareAt t (i : Int))).sum = (t.map fun x => valQ x.share).sum
  | [], _, _ => by
    have : (fun i : Nat => valQ (shareAt [] (i : Int))) = fun _ => 0 := by funext i; exact valQ_zero
    rw [this, sum_zero]; rfl
  | x :: r, h1, h2 => by
    obtain ⟨h3, h4⟩ := List.pairwise_cons.1 h2
    have ih := sum_titles (fun y hy => h1 y (List.mem_cons_of_mem _ hy)) h4
    obtain ⟨p1, p2⟩ := (titleOk_parts (h1 x List.mem_cons_self)).1
    have e : (fun i : Nat => valQ (shareAt (x :: r) (i : Int))) = fun i => (if i = x.party.toNat then valQ x.share else 0) + valQ (shareAt r (i : Int)) := by
      funext i
      unfold shareAt
      rw [List.find?_cons]
      by_cases c : x.party = (i : Int)
      · rw [decide_eq_true c, if_pos (by omega)]
        have : r.find? (fun y => decide (y.party = (i : Int))) = none := by
          rw [List.find?_eq_none]
          intro y hy
          have := h3 y hy
          simp; omega
        rw [this]
        show valQ x.share = valQ x.share + valQ ⟨0, 1⟩
        rw [valQ_zero]; grind
      · rw [decide_eq_false c, if_neg (by omega)]
        grind
    rw [e, sum_add, sum_one, if_pos (by omega), ih, List.map_cons, List.sum_cons]

theorem find_range (g : Nat → Option Frac) (p : Nat) : ∀ n : Nat, ((List.range n).filterMap fun i => (g i).map fun f => (⟨(i : Int), f⟩ : Title)).find? (fun x => decide (x.party = (p : Int))) = if p < n then (g p).map (fun f => ⟨(p : Int), f⟩) else none
  | 0 => by simp
  | n + 1 => by
    rw [List.range_succ, List.filterMap_append, List.find?_append, find_range g p n]
    by_cases a : p < n
    · rw [if_pos a, if_pos (by omega)]
      cases hg : g p with
      | some f => rfl
      | none =>
        simp only [Option.map_none, Option.none_or]
        cases hn : g n with
        | none => simp [hn]
        | some f =>
          simp only [List.filterMap_cons, hn, Option.map_some, List.filterMap_nil, List.find?_cons, List.find?_nil]
          rw [decide_eq_false (by omega)]
    · rw [if_neg a]
      simp only [Option.none_or]
      cases hn : g n with
      | none =>
        by_cases b : p = n
        · subst b; rw [if_pos (by omega), hn]; simp [hn]
        · rw [if_neg (by omega)]; simp [hn]
      | some f =>
        simp only [List.filterMap_cons, hn, Option.map_some, List.filterMap_nil, List.find?_cons, List.find?_nil]
        by_cases b : p = n
        · subst b
          rw [decide_eq_true rfl, if_pos (by omega), hn]; rfl
        · rw [decide_eq_false (by omega), if_neg (by omega)]

theorem sum_range_titles (g : Nat → Option Frac) : ∀ n : Nat, (((List.range n).filterMap fun i => (g i).map fun f => (⟨(i : Int), f⟩ : Title)).map fun x => valQ x.share).sum = ((List.range n).map fun i => match g i with | some f => valQ f | none => 0).sum
  | 0 => rfl
  | n + 1 => by
    rw [List.range_succ, List.filterMap_append, List.map_append, List.map_append, List.sum_append, List.sum_append, sum_range_titles g n]
    congr 1
    cases hn : g n with
    | none => simp [hn]; grind
    | some f => simp [hn]

/-- What is chosen of the lists, party by party. -/
def chG (l : List (List Title)) (often : Nat) (ch : List Frac → Frac) (i : Nat) : Option Frac := if often ≤ (sharesAt l (i : Int)).length then some (ch (sharesAt l (i : Int))) else none
theorem chosen_eq {l : List (List Title)} (h : endsE l = 0) (often : Nat) (ch : List Frac → Frac) : chosenD l often ch = ((List.range 41).filterMap fun i => (chG l often ch i).map fun f => (⟨(i : Int), f⟩ : Title), 0) := by
  unfold chosenD
  rw [if_pos h]
  congr 2
  funext i
  unfold chG
  split <;> rfl

theorem ends_ok {l : List (List Title)} (h : endsE l = 0) : ∀ t ∈ l, listOk t = true := by
  unfold endsE at h
  split at h
  · cases h
  · split at h
    · rename_i h2; exact List.all_eq_true.1 h2
    · cases h

theorem shareAt_chosen {l : List (List Title)} (h : endsE l = 0) (often : Nat) (ch : List Frac → Frac) {p : Int} (h0 : 0 ≤ p) (h1 : p ≤ 40) :
    shareAt (chosenD l often ch).1 p = match chG l often ch p.toNat with | some f => f | none => ⟨0, 1⟩ := by
  rw [chosen_eq h]
  unfold shareAt
  have := find_range (chG l often ch) p.toNat 41
  rw [show ((p.toNat : Nat) : Int) = p by omega, if_pos (by omega)] at this
  dsimp only
  rw [this]
  cases chG l often ch p.toNat <;> rfl

theorem min_of {fs : List Frac} (hne : fs ≠ []) (hv : ∀ f ∈ fs, validF f = true) : validF (minF fs) = true ∧ ∀ f ∈ fs, valQ (minF fs) ≤ valQ f := by
  obtain ⟨x, r, rfl⟩ := List.exists_cons_of_ne_nil hne
  obtain ⟨h1, h2, h3⟩ := fold_min (ok := fun f => validF f = true) (fun _ h => h) r x (hv x List.mem_cons_self) (fun f hf => hv f (List.mem_cons_of_mem _ hf))
  refine ⟨h1, fun f hf => ?_⟩
  rcases List.mem_cons.1 hf with rfl | hf
  · exact h2
  · exact h3 f hf
theorem max_of {fs : List Frac} (hne : fs ≠ []) (hv : ∀ f ∈ fs, validF f = true) : validF (maxF fs) = true ∧ ∀ f ∈ fs, valQ f ≤ valQ (maxF fs) := by
  obtain ⟨x, r, rfl⟩ := List.exists_cons_of_ne_nil hne
  obtain ⟨h1, h2, h3⟩ := fold_max (ok := fun f => validF f = true) (fun _ h => h) r x (hv x List.mem_cons_self) (fun f hf => hv f (List.mem_cons_of_mem _ hf))
  refine ⟨h1, fun f hf => ?_⟩
  rcases List.mem_cons.1 hf with rfl | hf
  · exact h2
  · exact h3 f hf

theorem ne_of_len {α : Type} {n : Nat} {l : List α} (h : max 1 n ≤ l.length) : l ≠ [] := fun e => by rw [e] at h; simp at h

/-- What is sure of a party is at most what each list says. -/
theorem sure_le {l : List (List Title)} (h : endsE l = 0) {t : List Title} (ht : t ∈ l) {p : Int} (h0 : 0 ≤ p) (h1 : p ≤ 40) : validF (shareAt (commonOf l).1 p) = true ∧ valQ (shareAt (commonOf l).1 p) ≤ valQ (shareAt t p) := by
  have hok := ends_ok h
  unfold commonOf
  rw [shareAt_chosen h _ _ h0 h1]
  unfold chG
  rw [show ((p.toNat : Nat) : Int) = p by omega]
  by_cases c : max 1 l.length ≤ (sharesAt l p).length
  · rw [if_pos c]
    have hv := fun f hf => (sharesAt_ok hok p f hf).1
    obtain ⟨m1, m2⟩ := min_of (ne_of_len c) hv
    refine ⟨m1, ?_⟩
    obtain ⟨x, hx⟩ := sharesAt_all (l := l) (p := p) (by omega) t ht
    have : shareAt t p = x.share := by unfold shareAt; rw [hx]
    rw [this]
    exact m2 _ (sharesAt_in ht hx)
  · rw [if_neg c]
    exact ⟨valid0, by rw [valQ_zero]; exact (shareAt_ok (hok t ht) p).2⟩

theorem sure_ge {l : List (List Title)} (h : endsE l = 0) {t : List Title} (ht : t ∈ l) {p : Int} (h0 : 0 ≤ p) (h1 : p ≤ 40) : validF (shareAt (greatestOf l).1 p) = true ∧ valQ (shareAt t p) ≤ valQ (shareAt (greatestOf l).1 p) := by
  have hok := ends_ok h
  unfold greatestOf
  rw [shareAt_chosen h _ _ h0 h1]
  unfold chG
  rw [show ((p.toNat : Nat) : Int) = p by omega]
  have hv := fun f hf => (sharesAt_ok hok p f hf).1
  by_cases c : 1 ≤ (sharesAt l p).length
  · rw [if_pos c]
    have hne : sharesAt l p ≠ [] := fun e => by rw [e] at c; simp at c
    obtain ⟨m1, m2⟩ := max_of hne hv
    refine ⟨m1, ?_⟩
    unfold shareAt
    cases hx : t.find? (fun x => decide (x.party = p)) with
    | some x => exact m2 _ (sharesAt_in ht hx)
    | none =>
      show valQ ⟨0, 1⟩ ≤ _
      rw [valid_le valid0 m1]
      obtain ⟨f, r, hf⟩ := List.exists_cons_of_ne_nil hne
      have hfm : f ∈ sharesAt l p := by rw [hf]; exact List.mem_cons_self
      have h2 := m2 f hfm
      have h3 := (sharesAt_ok hok p f hfm)
      rw [valid_le h3.1 m1] at h2
      have d1 := (validF_parts m1).1
      have d2 := (validF_parts h3.1).1
      have h5 : 0 < f.num * (maxF (sharesAt l p)).den := Int.mul_pos h3.2.1 (by omega)
      have h6 : 0 < (maxF (sharesAt l p)).num := by
        rcases Int.lt_or_le 0 (maxF (sharesAt l p)).num with q | q
        · exact q
        · have : (maxF (sharesAt l p)).num * f.den ≤ 0 := Int.mul_nonpos_of_nonpos_of_nonneg q (by omega)
          omega
      show 0 * (maxF (sharesAt l p)).den ≤ (maxF (sharesAt l p)).num * 1
      omega
  · rw [if_neg c]
    refine ⟨valid0, ?_⟩
    have he : sharesAt l p = [] := List.length_eq_zero_iff.1 (by omega)
    unfold shareAt
    cases hx : t.find? (fun x => decide (x.party = p)) with
    | none => exact Rat.le_refl
    | some x => have := sharesAt_in ht hx; rw [he] at this; cases this

/-- Together what is sure is at most what a list says. -/
theorem sure_sum {l : List (List Title)} (h : endsE l = 0) {t : List Title} (ht : t ∈ l) : ((commonOf l).1.map fun x => valQ x.share).sum ≤ (t.map fun x => valQ x.share).sum := by
  have hok := listOk_parts (ends_ok h t ht)
  rw [← sum_titles hok.1 hok.2]
  have e : ((commonOf l).1.map fun x => valQ x.share).sum = ((List.range 41).map fun i => match chG l (max 1 l.length) minF i with | some f => valQ f | none => 0).sum := by
    unfold commonOf
    rw [chosen_eq h]
    exact sum_range_titles _ 41
  rw [e]
  refine sum_le 41 _ _ (fun i hi => ?_)
  have := (sure_le h ht (p := (i : Int)) (by omega) (by omega)).2
  unfold commonOf at this
  rw [shareAt_chosen h _ _ (by omega) (by omega)] at this
  rw [show ((i : Int)).toNat = i by omega] at this
  cases hc : chG l (max 1 l.length) minF i with
  | none => rw [hc] at this; rw [← valQ_zero]; exact this
  | some f => rw [hc] at this; exact this

theorem common_nil : commonOf [] = ([], 0) := by decide +kernel

end Lg

/-
  Walks: claim.chosen, Common, Greatest.
-/
namespace Go.Proofs.YtmeomhojbobpbaaGreatDoor
open Go.RowKit Lg Go.Sort Go.Shelf Go.Maps

theorem filter_find {t : List Title} (h : t.Pairwise (fun x y => x.party < y.party)) (p : Int) : t.filter (fun x => decide (x.party = p)) = (t.find? fun x => decide (x.party = p)).toList := by
  induction t with
  | nil => rfl
  | cons x r ih =>
    obtain ⟨h1, h2⟩ := List.pairwise_cons.1 h
    by_cases hp : x.party = p
    · rw [List.filter_cons_of_pos (by simpa using hp), List.find?_cons_of_pos (by simpa using hp)]
      have : r.filter (fun x => decide (x.party = p)) = [] := List.filter_eq_nil_iff.2 (fun y hy => by have := h1 y hy; simp; omega)
      rw [this]; rfl
    · rw [List.filter_cons_of_neg (by simpa using hp), List.find?_cons_of_neg (by simpa using hp)]
      exact ih h2

theorem flat_shares {l : List (List Title)} (h : ∀ t ∈ l, listOk t = true) (p : Int) : (l.flatten.filter fun x => decide (x.party = p)).map Title.share = sharesAt l p := by
  induction l with
  | nil => rfl
  | cons t r ih =>
    rw [List.flatten_cons, List.filter_append, List.map_append, ih (fun y hy => h y (by simp [hy])), filter_find (listOk_parts (h t (by simp))).2 p]
    unfold sharesAt
    rw [List.filterMap_cons]
    cases t.find? (fun x => decide (x.party = p)) with
    | none => rfl
    | some x => rfl

theorem minC_eq {fs : List Frac} (hv : ∀ f ∈ fs, validF f = true) : minC fs = minF fs := by
  have key : ∀ (l : List Frac) (m : Frac), validF m = true → (∀ f ∈ l, validF f = true) → l.foldl (fun m f => if cmpF f m < 0 then f else m) m = l.foldl (fun m f => if ltF f m then f else m) m := by
    intro l
    induction l with
    | nil => intros; rfl
    | cons f r ih =>
      intro m hm hl
      have hf := hl f (by simp)
      have e : (if cmpF f m < 0 then f else m) = (if ltF f m then f else m) := by
        unfold cmpF ltF
        rw [hf, hm]
        by_cases h : f.num * m.den < m.num * f.den
        · simp [h]
        · simp only [Bool.and_self, if_true, if_neg h]
          split <;> simp [h]
      rw [List.foldl_cons, List.foldl_cons, e]
      refine ih _ ?_ (fun g hg => hl g (by simp [hg]))
      split
      · exact hf
      · exact hm
  cases fs with
  | nil => rfl
  | cons x r => exact key r x (hv x (by simp)) (fun f hf => hv f (by simp [hf]))

theorem maxC_eq {fs : List Frac} (hv : ∀ f ∈ fs, validF f = true) : maxC fs = maxF fs := by
  have key : ∀ (l : List Frac) (m : Frac), validF m = true → (∀ f ∈ l, validF f = true) → l.foldl (fun m f => if 0 < cmpF f m then f else m) m = l.foldl (fun m f => if ltF m f then f else m) m := by
    intro l
    induction l with
    | nil => intros; rfl
    | cons f r ih =>
      intro m hm hl
      have hf := hl f (by simp)
      have e : (if 0 < cmpF f m then f else m) = (if ltF m f then f else m) := by
        unfold cmpF ltF
        rw [hf, hm]
        by_cases h : m.num * f.den < f.num * m.den
        · have h2 : ¬ f.num * m.den < m.num * f.den := by omega
          simp [h, h2]
        · by_cases h2 : f.num * m.den < m.num * f.den
          · simp [h, h2]
          · simp [h, h2]
      rw [List.foldl_cons, List.foldl_cons, e]
      refine ih _ ?_ (fun g hg => hl g (by simp [hg]))
      split
      · exact hf
      · exact hm
  cases fs with
  | nil => rfl
  | cons x r => exact key r x (hv x (by simp)) (fun f hf => hv f (by simp [hf]))

/-- The title of a party that is often enough in lists. -/
def chT (xss : List (List Title)) (often : Nat) (ch : List Frac → Frac) (i : Nat) : Option Title := (chG xss often ch i).map fun f => (⟨(i : Int), f⟩ : Title)

set_option maxRecDepth 100000 in
set_option maxHeartbeats 3200000 in
theorem chosenD_any (a : Option Addr) (n cap : Nat) (xss : List (List Title)) (often : Nat) (w : World) (hL : LstL w a n cap xss) (h50 : ∀ xs ∈ xss, xs.length ≤ 50) (ho : 1 ≤ often) (hob : often ≤ 100000)
    (g : Nat) (eg : Ent g) (chC ch : List Frac → Frac) (hch : ∀ (a : Option Addr) (n cap : Nat) (x0 : Frac) (ys : List Frac) (W : World), Lst W 2 cF a n cap (x0 :: ys) → Calls Tryz.prog g #[.slice a n cap, .func (.func 33) #[] #[]] W (Gives W (aF (chC (x0 :: ys)))))
    (hcc : ∀ fs, (∀ f ∈ fs, validF f = true) → chC fs = ch fs) :
    Calls Tryz.prog 100 #[.slice a n cap, .int .i64 often, .func (.func g) #[] #[]] w (GivesL w 66 3 cT (chosenD xss often ch).1 (chosenD xss often ch).2) := by
  obtain ⟨i0, hi0, hz0, hz1, hz2⟩ := info_parts infoT
  have hE := endsD_any a n cap xss w hL h50
  by_cases he : endsE xss = 0
  · have hok := ends_ok he
    rw [chosen_eq he]
    have HE := Lib.hid he
    have Hok := Lib.hid hok
    have Hcc := Lib.hid hcc
    clear hL h50 he hok hcc
    go_enter Tryz.func100, Tryz.ntmps100
    go_wp2_with (fail)
    refine hE.mono ?_
    clear hE
    rintro e w1 ⟨hB1, ⟨_, nm, F, rfl, hG⟩ | ⟨hne, _⟩⟩
    rotate_left
    · exact absurd HE.out hne
    obtain ⟨bm, hbm⟩ : ∃ b, b = w.heap.size := ⟨_, rfl⟩
    rw [← hbm] at hG
    have hbs : w.heap.size ≤ bm := by omega
    go_wp2_with (fail)
    rw [← hbm]
    clear hbm
    go_loopw [10, 20] (fun o i wr => ∃ k : Nat, k ≤ 41 ∧ i = .int .i64 k ∧ wr.ownsRow w1.heap.size 66 3 o ((List.range k).filterMap (chT xss often ch)).length (((List.range k).filterMap (chT xss often ch)).flatMap cT) ∧ RowKit.Below w1.heap.size w1 wr) (fun _ i _ => 41 - (intOf i).toNat)
    case atStart => exact ⟨0, Nat.zero_le _, rfl, ⟨by simp, .inl ⟨rfl, rfl⟩⟩, Below.refl _ _⟩
    case round =>
      obtain ⟨k, hk, rfl, hor, hB⟩ := hrel
      by_cases hlt : k < 41
      · have hltz : (k : Int) < 41 := by omega
        have hGr := hG.below (by omega) hB
        obtain ⟨fs, hfs⟩ : ∃ fs, fs = sharesAt xss (k : Int) := ⟨_, rfl⟩
        have hfs2 : (xss.flatten.filter fun x => decide (x.party = (k : Int))).map Title.share = fs := by rw [hfs]; exact flat_shares Hok.out _
        have hrow := hGr.row (k : Int)
        rw [← List.length_map (f := Title.share), hfs2] at hrow
        obtain ⟨ak, ck, hFk, _, hLk⟩ := Lst.of_owns (k := 2) (enc := cF) (fun _ => rfl) (by omega) hrow rfl
        have hlk := hGr.map.look (k : Int) (WalkArith.wf_i64 (by omega))
        rw [hFk] at hlk
        have hfv : ∀ f ∈ fs, validF f = true := fun f hf => (sharesAt_ok Hok.out (k : Int) f (by rw [← hfs]; exact hf)).1
        obtain ⟨ys, hys⟩ : ∃ ys, ys = (List.range k).filterMap (chT xss often ch) := ⟨_, rfl⟩
        have hyl : ys.length ≤ 41 := by
          have := List.length_filterMap_le (chT xss often ch) (List.range k)
          rw [List.length_range] at this
          rw [hys]; omega
        rw [← hys] at hor
        have hsn : (List.range (k + 1)).filterMap (chT xss often ch) = ys ++ (chT xss often ch k).toList := by rw [range_snoc, ← hys]
        have hta : chT xss often ch k = if often ≤ fs.length then some ⟨(k : Int), ch fs⟩ else none := by
          unfold chT chG; rw [← hfs]; split <;> rfl
        have Hsn := Lib.hid hsn
        have Hta := Lib.hid hta
        have Hor := Lib.hid hor
        clear hsn hta hfs hfs2 hys hor hGr hrow hFk
        by_cases h0 : often ≤ fs.length
        · have H0 := Lib.hid h0
          have h0z : (often : Int) ≤ (fs.length : Int) := by omega
          cases fs with
          | nil => simp at h0; omega
          | cons x0 xs =>
            have hcl := hch ak _ ck x0 xs wr hLk
            rw [Hcc.out _ hfv] at hcl
            generalize ch (x0 :: xs) = fch at *
            generalize (x0 :: xs).length = nl at *
            clear hLk h0 hfv
            go_wp2_with (fail)
            refine hcl.mono ?_
            clear hcl hlk
            rintro e w3 ⟨rfl, hB3⟩
            have hB4 := hB.trans (hB3.mono hB.size)
            have ho3 := Lib.hid (own_below Hor.out hB3)
            go_wp2_with (first
              | (at_builtin; refine wpList_append_list rfl _ _ _ rfl w1.heap.size 66 i0 _ 3 24 Tryz.underlying57 hi0 hz0 hz1 hz2 rfl (by omega) _ _ _ rfl (ho3.out.alloc _) cT (fun _ => rfl) cT_one _ 1 _ [⟨(k : Int), fch⟩] rfl (Lst.oneT3 (Blk.new _ _ _)) (by unfold maxLen; omega) (by omega) (by have := hB4.size; simp; omega) ?_; intro v2 w5 hown2 hgrow2)
              | fail)
            have hB5 := below_of_grown (hB4.alloc hB4.size (.cells #[.int .i64 k, .int .i64 fch.num, .int .i64 fch.den] 66)) (Nat.le_refl _) hgrow2 (own_ge' ho3.out)
            go_roundw
            case rel =>
              refine ⟨k + 1, by omega, by go_num, ?_, hB5⟩
              rw [Hsn.out, Hta.out, if_pos H0.out]
              simp only [Option.toList_some, List.length_append, List.flatMap_append]
              exact hown2
            case measure => simp [intOf]; omega
        · have H0 := Lib.hid h0
          have h0z : ¬ (often : Int) ≤ (fs.length : Int) := by omega
          have h0d : decide ((often : Int) ≤ (fs.length : Int)) = false := decide_eq_false h0z
          generalize fs.length = nl at *
          clear hLk h0 hfv
          go_wp2_with (fail)
          go_roundw
          case rel =>
            refine ⟨k + 1, by omega, by go_num, ?_, hB⟩
            rw [Hsn.out, Hta.out, if_neg H0.out]
            simpa using Hor.out
          case measure => simp [intOf]; omega
      · obtain rfl : k = 41 := by omega
        go_wp2_with (fail)
        go_ret2
        exact ⟨_, rfl, ownsRow_base_a hor hB1.size, hB1.trans (hB.mono hB1.size)⟩
  · have hcd : chosenD xss often ch = ([], endsE xss) := by unfold chosenD; rw [if_neg he]
    rw [hcd]
    show Calls Tryz.prog 100 #[.slice a n cap, .int .i64 often, .func (.func g) #[] #[]] w (GivesL w 66 3 cT ([] : List Title) (endsE xss))
    unfold EndsR at hE
    clear hcd
    generalize endsE xss = er at *
    have g0 : (er != 0) = true := by simpa using he
    have HE := Lib.hid he
    clear hL h50 he hch hcc
    go_enter Tryz.func100, Tryz.ntmps100
    go_wp2_with (fail)
    refine hE.mono ?_
    clear hE
    rintro e w1 ⟨hB1, ⟨h0, _⟩ | ⟨_, rfl⟩⟩
    · exact absurd h0 HE.out
    go_wp2_with (fail)
    go_ret2
    exact GivesL.nil hB1

set_option maxRecDepth 100000 in
theorem commonD_any (a : Option Addr) (n cap : Nat) (xss : List (List Title)) (w : World) (hL : LstL w a n cap xss) (h50 : ∀ xs ∈ xss, xs.length ≤ 50) (hn : n ≤ 100000) :
    Calls Tryz.prog 40 #[.slice a n cap] w (GivesL w 66 3 cT (commonOf xss).1 (commonOf xss).2) := by
  have eM : Ent 101 := enters_of Tryz.func101 (by kernel_rfl) rfl
  have hc := chosenD_any a n cap xss (max 1 n) w hL h50 (by omega) (by omega) 101 eM minC minF (fun a n cap x0 ys W h => minC_any a n cap x0 ys W h) (fun fs h => minC_eq h)
  have hlen := hL.facts.1
  unfold commonOf
  rw [hlen]
  have hmx : max (1 : Int) (n : Int) = ((max 1 n : Nat) : Int) := by omega
  have hmy : ((max 1 n : Nat) : Int) = max (1 : Int) (n : Int) := hmx.symm
  rw [hmy] at hc
  clear hL h50 hlen hmx
  generalize chosenD xss (max 1 n) minF = r at *
  clear hmy
  go_enter Tryz.func40, Tryz.ntmps40
  go_wp2_with (fail)
  refine hc.mono ?_
  clear hc
  rintro e w1 ⟨v, rfl, ho, hB⟩
  go_wp2_with (fail)
  go_ret2
  exact ⟨v, rfl, ho, hB⟩

set_option maxRecDepth 100000 in
theorem greatestD_any (a : Option Addr) (n cap : Nat) (xss : List (List Title)) (w : World) (hL : LstL w a n cap xss) (h50 : ∀ xs ∈ xss, xs.length ≤ 50) :
    Calls Tryz.prog 42 #[.slice a n cap] w (GivesL w 66 3 cT (greatestOf xss).1 (greatestOf xss).2) := by
  have eM : Ent 104 := enters_of Tryz.func104 (by kernel_rfl) rfl
  have hc := chosenD_any a n cap xss 1 w hL h50 (by omega) (by omega) 104 eM maxC maxF (fun a n cap x0 ys W h => maxC_any a n cap x0 ys W h) (fun fs h => maxC_eq h)
  unfold greatestOf
  clear hL h50
  generalize chosenD xss 1 maxF = r at *
  go_enter Tryz.func42, Tryz.ntmps42
  go_wp2_with (fail)
  refine hc.mono ?_
  clear hc
  rintro e w1 ⟨v, rfl, ho, hB⟩
  go_wp2_with (fail)
  go_ret2
  exact ⟨v, rfl, ho, hB⟩

end Go.Proofs.YtmeomhojbobpbaaGreatDoor
