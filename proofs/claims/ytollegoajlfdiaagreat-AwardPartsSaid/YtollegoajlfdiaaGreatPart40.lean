import Derived.Test.YtollegoajlfdiaaGreatPart39
import Derived.Test.YtollegoajlfdiaaGreatPart12
import Derived.Test.YtollegoajlfdiaaGreatPart27
import Derived.Test.YtollegoajlfdiaaGreatPart32
import Derived.Test.YtollegoajlfdiaaGreatPart04
import Derived.BigQuiet
import Derived.Deep.CutRange
import Derived.Deep.RegionHeld3
/-
  Plain laws: the library's stable sort, whole.
-/
namespace Lg
open Go Go.Sort

/-- An order with ties broken by number. -/
def tieLt (lt : Nat → Nat → Bool) (x y : Nat) : Bool := lt x y || (!lt y x && decide (x < y))

theorem tieLt_later (lt : Nat → Nat → Bool) {x y : Nat} (h : y < x) : lt x y = tieLt lt x y := by
  unfold tieLt
  rw [decide_eq_false (by omega), Bool.and_false, Bool.or_false]

theorem tieLt_swo {lt : Nat → Nat → Bool} (hS : SWO lt) : SWO (tieLt lt) where
  irrefl x := by unfold tieLt; rw [hS.irrefl]; simp
  trans x y z h1 h2 := by
    unfold tieLt at *
    simp only [Bool.or_eq_true, Bool.and_eq_true, Bool.not_eq_true', decide_eq_true_eq] at *
    rcases h1 with h1 | ⟨h1, h3⟩
    · rcases h2 with h2 | ⟨h2, _⟩
      · exact .inl (hS.trans _ _ _ h1 h2)
      · left
        cases e : lt x z with
        | true => rfl
        | false => rw [hS.ntrans _ _ _ e h2] at h1; cases h1
    · rcases h2 with h2 | ⟨h2, h4⟩
      · left
        cases e : lt x z with
        | true => rfl
        | false => rw [hS.ntrans _ _ _ h1 e] at h2; cases h2
      · exact .inr ⟨hS.ntrans _ _ _ h2 h1, by omega⟩
  ntrans x y z h1 h2 := by
    unfold tieLt at *
    simp only [Bool.or_eq_false_iff, Bool.and_eq_false_iff, Bool.not_eq_false', decide_eq_false_iff_not] at *
    obtain ⟨a1, b1⟩ := h1
    obtain ⟨a2, b2⟩ := h2
    refine ⟨hS.ntrans _ _ _ a1 a2, ?_⟩
    rcases b1 with b1 | b1
    · left
      cases e : lt z x with
      | true => rfl
      | false => rw [hS.ntrans _ _ _ a2 e] at b1; cases b1
    · rcases b2 with b2 | b2
      · left
        cases e : lt z x with
        | true => rfl
        | false => rw [hS.ntrans _ _ _ e a1] at b2; cases b2
      · exact .inr (by omega)

section
variable {lt lt' : Nat → Nat → Bool}

theorem insInner_same {a : Nat} (hC : ∀ x y, y < x → lt x y = lt' x y) : ∀ (j : Nat) (d : Array Nat) (x : Nat), (∀ k, a ≤ k → k < j → d[k]! < x) → d[j]! = x → j < d.size → insInner lt a j d = insInner lt' a j d
  | 0, d, x, _, _, _ => by unfold insInner; rfl
  | j + 1, d, x, h1, h2, h3 => by
    unfold insInner
    by_cases q : j + 1 > a
    · have e : lt d[j + 1]! d[j]! = lt' d[j + 1]! d[j]! := hC _ _ (by rw [h2]; exact h1 j (by omega) (by omega))
      rw [e]
      split
      · refine insInner_same hC j (swp d (j + 1) j) x (fun k k1 k2 => ?_) ?_ (by rw [swp_size]; omega)
        · rw [swp_get d h3 (by omega), if_neg (by omega), if_neg (by omega)]; exact h1 k k1 (by omega)
        · rw [swp_get d h3 (by omega), if_pos rfl]; exact h2
      · rfl
    · rw [decide_eq_false q]; rfl

theorem insOuter_same (hC : ∀ x y, y < x → lt x y = lt' x y) (hS : SWO lt') (a b : Nat) : ∀ (n i : Nat) (d : Array Nat), b - i = n → a < i → i ≤ b → b ≤ d.size → SortedIn lt' a i d →
    (∀ k, i ≤ k → k < b → d[k]! = k) → (∀ k, a ≤ k → k < i → d[k]! < i) → insOuter lt a b i d = insOuter lt' a b i d
  | 0, i, d, hn, _, hib, _, _, _, _ => by
    obtain rfl : i = b := by omega
    rw [insOuter, if_neg (by omega), insOuter, if_neg (by omega)]
  | n + 1, i, d, hn, hai, hib, hb, hs, h1, h2 => by
    have hlt : i < b := by omega
    rw [insOuter, if_pos hlt]
    conv => rhs; rw [insOuter, if_pos hlt]
    have e : insInner lt a i d = insInner lt' a i d := insInner_same hC i d i (fun k k1 k2 => h2 k k1 k2) (h1 i (Nat.le_refl _) hlt) (by omega)
    rw [e]
    have hp := insInner_spec hS swp_permIn permIn_refl permIn_trans a (i + 1) i (by omega) i d (by omega) (Nat.le_refl _) (by omega) ⟨fun p q hap hpq hqi _ hq => hs p q hap hpq (by omega), fun q h1 h2 => by omega⟩
    refine insOuter_same hC hS a b n (i + 1) _ (by omega) (by omega) (by omega) (by rw [hp.1.1]; exact hb) hp.2 (fun k k1 k2 => ?_) (fun k k1 k2 => ?_)
    · rw [hp.1.2.1 k (.inr (by omega))]; exact h1 k (by omega) k2
    · refine permIn_all d _ a (i + 1) (fun v => v < i + 1) (by omega) hp.1 (fun k' k3 k4 => ?_) k k1 k2
      by_cases q : k' = i
      · rw [q, h1 i (Nat.le_refl _) hlt]; omega
      · have := h2 k' k3 (by omega); omega

theorem insertionSort_same (hC : ∀ x y, y < x → lt x y = lt' x y) (hS : SWO lt') (d : Array Nat) (a b : Nat) (hb : b ≤ d.size) (h : ∀ k, a ≤ k → k < b → d[k]! = k) : insertionSort lt d a b = insertionSort lt' d a b := by
  unfold insertionSort
  by_cases q : a < b
  · refine insOuter_same hC hS a b (b - (a + 1)) (a + 1) d rfl (by omega) (by omega) hb (fun i j h1 h2 h3 => by omega) (fun k k1 k2 => h k (by omega) k2) (fun k k1 k2 => ?_)
    rw [h k k1 (by omega)]; omega
  · rw [insOuter, if_neg (by omega), insOuter, if_neg (by omega)]

/-- Blocks of a size: each sorted, each with its own numbers. -/
structure Blocks (lt' : Nat → Nat → Bool) (bs n : Nat) (lo hi : Nat) (d : Array Nat) : Prop where
  ord : ∀ i j, lo ≤ i → i < j → j < hi → j < n → i / bs = j / bs → lt' d[j]! d[i]! = false
  loc : ∀ i, lo ≤ i → i < hi → i < n → d[i]! / bs = i / bs

theorem div_block {bs a k i : Nat} (hb : 0 < bs) (ha : a = k * bs) : i / bs = k ↔ a ≤ i ∧ i < a + bs := by
  subst ha
  rw [Nat.div_eq_iff hb]
  omega

theorem stA_spec (hC : ∀ x y, y < x → lt x y = lt' x y) (hS : SWO lt') (n : Nat) : ∀ (f a : Nat) (d : Array Nat), n - a ≤ f → a ≤ n → (∃ q, a = q * 20) → d.size = n → (∀ k, a ≤ k → k < n → d[k]! = k) → Blocks lt' 20 n 0 a d →
    PermIn 0 n d (stA lt n f a d) ∧ Blocks lt' 20 n 0 n (stA lt n f a d) := by
  have last : ∀ (a : Nat) (d : Array Nat), a ≤ n → n ≤ a + 20 → (∃ q, a = q * 20) → d.size = n → (∀ k, a ≤ k → k < n → d[k]! = k) → Blocks lt' 20 n 0 a d →
      PermIn 0 n d (insertionSort lt d a n) ∧ Blocks lt' 20 n 0 n (insertionSort lt d a n) := by
    intro a d han hn20 ⟨q, hq⟩ hd hid hB
    rw [insertionSort_same hC hS d a n (by omega) hid]
    obtain ⟨p1, p2⟩ := insertionSort_holds hS d a n han (by omega)
    refine ⟨permIn_mono _ _ a n 0 n (by omega) (Nat.le_refl _) (by omega) p1, ⟨fun i j h1 h2 h3 h4 h5 => ?_, fun i h1 h2 h3 => ?_⟩⟩
    · by_cases c : j < a
      · rw [p1.2.1 i (.inl (by omega)), p1.2.1 j (.inl c)]; exact hB.ord i j h1 h2 c h4 h5
      · have hjq : j / 20 = q := (div_block (by omega) hq).2 ⟨by omega, by omega⟩
        have hiq := (div_block (by omega) hq).1 (h5.trans hjq)
        exact p2 i j hiq.1 h2 h3
    · by_cases c : i < a
      · rw [p1.2.1 i (.inl c)]; exact hB.loc i h1 c h3
      · have hjq : i / 20 = q := (div_block (by omega) hq).2 ⟨by omega, by omega⟩
        rw [hjq]
        exact permIn_all d _ a n (fun v => v / 20 = q) (by omega) p1 (fun k k1 k2 => by rw [hid k k1 k2]; exact (div_block (by omega) hq).2 ⟨k1, by omega⟩) i (by omega) h3
  intro f
  induction f with
  | zero =>
    intro a d hf han hq hd hid hB
    rw [stA]
    exact last a d han (by omega) hq hd hid hB
  | succ f ih =>
    intro a d hf han ⟨q, hq⟩ hd hid hB
    rw [stA]
    by_cases c : a + 20 ≤ n
    · rw [if_pos c]
      rw [insertionSort_same hC hS d a (a + 20) (by omega) (fun k k1 k2 => hid k k1 (by omega))]
      obtain ⟨p1, p2⟩ := insertionSort_holds hS d a (a + 20) (by omega) (by omega)
      have hB2 : Blocks lt' 20 n 0 (a + 20) (insertionSort lt' d a (a + 20)) := by
        refine ⟨fun i j h1 h2 h3 h4 h5 => ?_, fun i h1 h2 h3 => ?_⟩
        · by_cases c : j < a
          · rw [p1.2.1 i (.inl (by omega)), p1.2.1 j (.inl c)]; exact hB.ord i j h1 h2 c h4 h5
          · have hjq : j / 20 = q := (div_block (by omega) hq).2 ⟨by omega, by omega⟩
            have hiq := (div_block (by omega) hq).1 (h5.trans hjq)
            exact p2 i j hiq.1 h2 h3
        · by_cases c : i < a
          · rw [p1.2.1 i (.inl c)]; exact hB.loc i h1 c h3
          · have hjq : i / 20 = q := (div_block (by omega) hq).2 ⟨by omega, by omega⟩
            rw [hjq]
            exact permIn_all d _ a (a + 20) (fun v => v / 20 = q) (by omega) p1 (fun k k1 k2 => by rw [hid k k1 (by omega)]; exact (div_block (by omega) hq).2 ⟨k1, by omega⟩) i (by omega) h2
      obtain ⟨r1, r2⟩ := ih (a + 20) _ (by omega) c ⟨q + 1, by omega⟩ (by rw [p1.1]; exact hd) (fun k k1 k2 => by rw [p1.2.1 k (.inr k1)]; exact hid k (by omega) k2) hB2
      exact ⟨permIn_trans _ _ _ 0 n (permIn_mono _ _ a (a + 20) 0 n (by omega) c (by omega) p1) r1, r2⟩
    · rw [if_neg c]
      exact last a d han (by omega) ⟨q, hq⟩ hd hid hB

theorem div_twice {bs i j : Nat} (h : i / bs = j / bs) : i / (2 * bs) = j / (2 * bs) := by
  rw [Nat.mul_comm, ← Nat.div_div_eq_div_mul, ← Nat.div_div_eq_div_mul, h]

/-- One pass of merges, from a on. -/
theorem stMg_spec (hC : ∀ x y, y < x → lt x y = lt' x y) (hS : SWO lt') (n bs : Nat) (hbs : 0 < bs) : ∀ (f a : Nat) (d : Array Nat), n - a ≤ f → (∃ q, a = q * (2 * bs)) → d.size = n → Blocks lt' (2 * bs) n 0 a d → Blocks lt' bs n a n d →
    PermIn 0 n d (stMg lt n bs f a d) ∧ Blocks lt' (2 * bs) n 0 n (stMg lt n bs f a d) := by
  -- a merge of two blocks
  have one : ∀ (a b : Nat) (d : Array Nat), (∃ q, a = q * (2 * bs)) → a + bs < b → b ≤ a + 2 * bs → b ≤ n → d.size = n → Blocks lt' (2 * bs) n 0 a d → Blocks lt' bs n a n d →
      PermIn a b d (symM lt n a (a + bs) b d) ∧ Blocks lt' (2 * bs) n 0 b (symM lt n a (a + bs) b d) := by
    intro a b d ⟨q, hq⟩ h1 h2 h3 hd hA hB
    have hq0 : a = (2 * q) * bs := by rw [hq]; rw [Nat.mul_comm 2 q, Nat.mul_assoc]
    have hq1 : a + bs = (2 * q + 1) * bs := by rw [hq0, Nat.add_mul, Nat.one_mul]
    have hd0 : ∀ i, a ≤ i → i < a + bs → i / bs = 2 * q := fun i i1 i2 => (div_block hbs hq0).2 ⟨i1, i2⟩
    have hd1 : ∀ i, a + bs ≤ i → i < b → i / bs = 2 * q + 1 := fun i i1 i2 => (div_block hbs hq1).2 ⟨i1, by omega⟩
    have hdd : ∀ i, a ≤ i → i < b → i / (2 * bs) = q := fun i i1 i2 => (div_block (by omega) hq).2 ⟨i1, by omega⟩
    obtain ⟨p1, p2⟩ := symM_spec (lt := lt) hS n a (a + bs) b d (by omega) (by omega) h1 (by omega)
      (fun i j i1 i2 i3 => hB.ord i j i1 i2 (by omega) (by omega) (by rw [hd0 i i1 (by omega), hd0 j (by omega) i3]))
      (fun i j i1 i2 i3 => hB.ord i j (by omega) i2 (by omega) (by omega) (by rw [hd1 i i1 (by omega), hd1 j (by omega) i3]))
      (fun i j i1 i2 i3 i4 => hC _ _ (by
        have e1 := hB.loc i i1 (by omega) (by omega)
        have e2 := hB.loc j (by omega) (by omega) (by omega)
        rw [hd0 i i1 i2] at e1
        rw [hd1 j i3 i4] at e2
        rcases Nat.lt_or_ge d[i]! d[j]! with h | h
        · exact h
        · have := Nat.div_le_div_right (c := bs) h
          omega))
    refine ⟨p1, ⟨fun i j i1 i2 i3 i4 i5 => ?_, fun i i1 i2 i3 => ?_⟩⟩
    · by_cases c : j < a
      · rw [p1.2.1 i (.inl (by omega)), p1.2.1 j (.inl c)]; exact hA.ord i j i1 i2 c i4 i5
      · have hiq := (div_block (by omega) hq).1 (i5.trans (hdd j (by omega) i3))
        exact p2 i j hiq.1 i2 i3
    · by_cases c : i < a
      · rw [p1.2.1 i (.inl c)]; exact hA.loc i i1 c i3
      · rw [hdd i (by omega) i2]
        refine permIn_all d _ a b (fun v => v / (2 * bs) = q) (by omega) p1 (fun k k1 k2 => ?_) i (by omega) i2
        rw [div_twice (hB.loc k k1 (by omega) (by omega))]
        exact hdd k k1 k2
  intro f
  induction f with
  | zero =>
    intro a d hf hq hd hA hB
    rw [stMg]
    exact ⟨permIn_refl d 0 n, ⟨fun i j h1 h2 h3 h4 h5 => hA.ord i j h1 h2 (by omega) h4 h5, fun i h1 h2 h3 => hA.loc i h1 (by omega) h3⟩⟩
  | succ f ih =>
    intro a d hf ⟨q, hq⟩ hd hA hB
    rw [stMg]
    by_cases c : a + 2 * bs ≤ n
    · rw [if_pos c]
      obtain ⟨p1, p2⟩ := one a (a + 2 * bs) d ⟨q, hq⟩ (by omega) (Nat.le_refl _) c hd hA hB
      obtain ⟨r1, r2⟩ := ih (a + 2 * bs) _ (by omega) ⟨q + 1, by rw [Nat.add_mul, Nat.one_mul, ← hq]⟩ (by rw [p1.1]; exact hd) p2
        ⟨fun i j h1 h2 h3 h4 h5 => by rw [p1.2.1 i (.inr h1), p1.2.1 j (.inr (by omega))]; exact hB.ord i j (by omega) h2 h3 h4 h5, fun i h1 h2 h3 => by rw [p1.2.1 i (.inr h1)]; exact hB.loc i (by omega) h2 h3⟩
      exact ⟨permIn_trans _ _ _ 0 n (permIn_mono _ _ a (a + 2 * bs) 0 n (by omega) c (by omega) p1) r1, r2⟩
    · rw [if_neg c]
      by_cases c2 : a + bs < n
      · rw [if_pos c2]
        obtain ⟨p1, p2⟩ := one a n d ⟨q, hq⟩ c2 (by omega) (Nat.le_refl _) hd hA hB
        exact ⟨permIn_mono _ _ a n 0 n (by omega) (Nat.le_refl _) (by omega) p1, p2⟩
      · rw [if_neg c2]
        have hq0 : a = (2 * q) * bs := by rw [hq]; rw [Nat.mul_comm 2 q, Nat.mul_assoc]
        have hd0 : ∀ i, a ≤ i → i < n → i / bs = 2 * q := fun i i1 i2 => (div_block hbs hq0).2 ⟨i1, by omega⟩
        refine ⟨permIn_refl d 0 n, ⟨fun i j h1 h2 h3 h4 h5 => ?_, fun i h1 h2 h3 => ?_⟩⟩
        · by_cases c3 : j < a
          · exact hA.ord i j h1 h2 c3 h4 h5
          · have hj : j / (2 * bs) = q := (div_block (by omega) hq).2 ⟨by omega, by omega⟩
            have hi := (div_block (by omega) hq).1 (h5.trans hj)
            exact hB.ord i j hi.1 h2 h3 h4 (by rw [hd0 i hi.1 (by omega), hd0 j (by omega) h4])
        · by_cases c3 : i < a
          · exact hA.loc i h1 c3 h3
          · exact div_twice (hB.loc i (by omega) h2 h3)

theorem stO_spec (hC : ∀ x y, y < x → lt x y = lt' x y) (hS : SWO lt') (n : Nat) : ∀ (f bs : Nat) (d : Array Nat), 0 < bs → n ≤ bs * 2 ^ f → d.size = n → Blocks lt' bs n 0 n d →
    PermIn 0 n d (stO lt n f bs d) ∧ SortedIn lt' 0 n (stO lt n f bs d) := by
  intro f
  induction f with
  | zero =>
    intro bs d hbs hn hd hB
    rw [Nat.pow_zero, Nat.mul_one] at hn
    rw [stO]
    exact ⟨permIn_refl d 0 n, fun i j h1 h2 h3 => hB.ord i j h1 h2 h3 h3 (by rw [Nat.div_eq_of_lt (by omega), Nat.div_eq_of_lt (by omega)])⟩
  | succ f ih =>
    intro bs d hbs hn hd hB
    rw [stO]
    by_cases c : bs < n
    · rw [if_pos c]
      obtain ⟨p1, p2⟩ := stMg_spec hC hS n bs hbs n 0 d (by omega) ⟨0, by omega⟩ hd ⟨fun i j h1 h2 h3 => by omega, fun i h1 h2 => by omega⟩ hB
      obtain ⟨r1, r2⟩ := ih (2 * bs) _ (by omega) (by rw [Nat.pow_succ] at hn; rw [Nat.mul_comm 2 bs, Nat.mul_assoc, Nat.mul_comm 2 (2 ^ f)]; exact hn) (by rw [p1.1]; exact hd) p2
      exact ⟨permIn_trans _ _ _ 0 n p1 r1, r2⟩
    · rw [if_neg c]
      exact ⟨permIn_refl d 0 n, fun i j h1 h2 h3 => hB.ord i j h1 h2 h3 h3 (by rw [Nat.div_eq_of_lt (by omega), Nat.div_eq_of_lt (by omega)])⟩
end

theorem extract_all (d : Array Nat) (n : Nat) (h : d.size = n) : d.extract 0 n = d := by
  subst h; simp

theorem range_get {n k : Nat} (h : k < n) : (List.range n).toArray[k]! = k := by
  simp [h]

/-- The library's stable sort of the numbers below n: they are there each once, ascending, equals by number. -/
theorem stableS_spec {lt : Nat → Nat → Bool} (hS : SWO lt) (n : Nat) :
    (stableS lt (List.range n).toArray).toList.Perm (List.range n) ∧ SortedIn (tieLt lt) 0 n (stableS lt (List.range n).toArray) := by
  have hz : (List.range n).toArray.size = n := by simp
  have hC : ∀ x y, y < x → lt x y = tieLt lt x y := fun x y h => tieLt_later lt h
  have hS' := tieLt_swo hS
  unfold stableS
  rw [hz]
  obtain ⟨p1, p2⟩ := stA_spec hC hS' n n 0 (List.range n).toArray (by omega) (Nat.zero_le _) ⟨0, rfl⟩ hz (fun k _ h => range_get h) ⟨fun i j h1 h2 h3 => by omega, fun i h1 h2 => by omega⟩
  obtain ⟨r1, r2⟩ := stO_spec hC hS' n n 20 _ (by omega) (by have := Nat.lt_two_pow_self (n := n); omega) (by rw [p1.1]; exact hz) p2
  refine ⟨?_, r2⟩
  have h := (permIn_trans _ _ _ 0 n p1 r1).2.2
  have z1 := r1.1
  have z2 := p1.1
  rw [hz] at z2
  rw [z2] at z1
  rw [extract_all _ n z1, extract_all _ n hz] at h
  simpa using h

end Lg

/-
  Plain laws: the reference gives what is left of a split to the greatest cuts one by one; that is the stable order.
-/
namespace Lg
open Go Go.Sort

/-! ### Fractions, as the reference has them -/
theorem normN_gcd {num den : Int} (h : 0 < den) : Int.gcd (normN num den).num (normN num den).den = 1 := by
  have hg := gcd_pos_of_den (num := num) (den := den) (by omega)
  have hD : normD num den = (Int.gcd num den : Int) := by unfold normD; rw [if_neg (by omega)]
  unfold normN
  rw [hD]
  dsimp only
  rw [Int.tdiv_eq_ediv_of_dvd (Int.gcd_dvd_left num den), Int.tdiv_eq_ediv_of_dvd (Int.gcd_dvd_right num den)]
  exact Int.gcd_ediv_gcd_ediv_gcd hg

theorem validF_normN {num den : Int} (h : 0 < den) : validF (normN num den) = normOk num den := by
  have h1 := (normN_val num den h).2
  unfold validF normOk
  rw [decide_eq_true (normN_gcd h), Bool.and_true, Bool.eq_iff_iff]
  simp only [Bool.and_eq_true, inn_iff, decide_eq_true_eq]
  omega

def lowF (num den : Int) : Frac × Int := if normOk num den = true then (normN num den, 0) else (⟨0, 0⟩, 2)
def addF (a b : Frac) : Frac × Int := if (validF a && validF b) = true then lowF (a.num * b.den + b.num * a.den) (a.den * b.den) else (⟨0, 0⟩, 1)
def cmpF (a b : Frac) : Int := if (validF a && validF b) = true then (if a.num * b.den < b.num * a.den then -1 else if b.num * a.den < a.num * b.den then 1 else 0) else 0

/-- The sum of valid fractions, step by step. -/
theorem sumGo_step {acc f : Frac} (r : List Frac) (ha : validF acc = true) (hf : validF f = true) :
    (addF acc f).2 = 0 ∧ sumGo acc (f :: r) = sumGo (addF acc f).1 r ∧ validF (addF acc f).1 = true ∨ addF acc f = (⟨0, 0⟩, 2) ∧ sumGo acc (f :: r) = (⟨0, 0⟩, 2) := by
  have a1 := validF_ok ha
  have a2 := validF_ok hf
  have hd : 0 < acc.den * f.den := Int.mul_pos (by have := a1.2.2.1; omega) (by have := a2.2.2.1; omega)
  unfold addF lowF
  rw [ha, hf, sumGo]
  simp only [Bool.and_self, if_true]
  by_cases hn : normOk (acc.num * f.den + f.num * acc.den) (acc.den * f.den) = true
  · rw [if_pos hn, if_pos hn]
    exact .inl ⟨rfl, rfl, by rw [validF_normN hd]; exact hn⟩
  · rw [if_neg hn, if_neg hn]
    exact .inr ⟨rfl, rfl⟩

/-! ### The greedy way -/
def bestAt (c : List Frac) : Nat → Nat
  | 0 => 0
  | i + 1 => if 0 < cmpF (c.getD i ⟨0, 1⟩) (c.getD (bestAt c i) ⟨0, 1⟩) then i else bestAt c i

def greedy : Nat → List Int → List Frac → List Int
  | 0, o, _ => o
  | t + 1, o, c => greedy t (o.set (bestAt c c.length) (o.getD (bestAt c c.length) 0 + 1)) (c.set (bestAt c c.length) ⟨0, 1⟩)

/-- The cut of a part: in lowest terms. -/
def cutQ (total : Int) (f : Frac) : Frac := normN (cutN total f) f.den

theorem norm_zero {d : Int} (h : 0 < d) : normN 0 d = ⟨0, 1⟩ := by
  have hD : normD 0 d = d := by unfold normD; rw [if_neg (by omega), Int.gcd_zero_left]; omega
  unfold normN
  rw [hD, Int.zero_tdiv, Int.tdiv_self (by omega)]

theorem cross_le {p q a b p' q' a' b' : Int} (h : p * b = a * q) (h' : p' * b' = a' * q') (hq : 0 < q) (hq' : 0 < q') (hb : 0 < b) (hb' : 0 < b') : p * q' ≤ p' * q ↔ a * b' ≤ a' * b := by
  have e1 : (p * q') * (b * b') = (a * b') * (q * q') := by
    calc (p * q') * (b * b') = (p * b) * (q' * b') := by ac_rfl
      _ = (a * q) * (q' * b') := by rw [h]
      _ = (a * b') * (q * q') := by ac_rfl
  have e2 : (p' * q) * (b * b') = (a' * b) * (q * q') := by
    calc (p' * q) * (b * b') = (p' * b') * (q * b) := by ac_rfl
      _ = (a' * q') * (q * b) := by rw [h']
      _ = (a' * b) * (q * q') := by ac_rfl
  have hB : 0 < b * b' := Int.mul_pos hb hb'
  have hQ : 0 < q * q' := Int.mul_pos hq hq'
  constructor
  · intro h0
    have := Int.mul_le_mul_of_nonneg_right h0 (Int.le_of_lt hB)
    rw [e1, e2] at this
    exact Int.le_of_mul_le_mul_right this hQ
  · intro h0
    have := Int.mul_le_mul_of_nonneg_right h0 (Int.le_of_lt hQ)
    rw [← e1, ← e2] at this
    exact Int.le_of_mul_le_mul_right this hB

theorem cross_trans {a b a' b' a'' b'' : Int} (hb : 0 < b) (hb' : 0 < b') (hb'' : 0 < b'') (h1 : a * b' ≤ a' * b) (h2 : a' * b'' ≤ a'' * b') : a * b'' ≤ a'' * b := by
  have e1 : (a * b') * b'' ≤ (a' * b) * b'' := Int.mul_le_mul_of_nonneg_right h1 (by omega)
  have e2 : (a' * b'') * b ≤ (a'' * b') * b := Int.mul_le_mul_of_nonneg_right h2 (by omega)
  have e3 : (a' * b) * b'' = (a' * b'') * b := by ac_rfl
  have e4 : (a * b') * b'' = (a * b'') * b' := by ac_rfl
  have e5 : (a'' * b') * b = (a'' * b) * b' := by ac_rfl
  rw [e3, e4] at e1
  rw [e5] at e2
  exact Int.le_of_mul_le_mul_right (Int.le_trans e1 e2) hb'

/-- The numbers k i / d i, each valid in lowest terms: the one that the scan finds is the first greatest. -/
theorem bestAt_spec {n : Nat} (c : List Frac) (k d : Nat → Int) (hd : ∀ i, i < n → 0 < d i) (hc : ∀ i, i < n → c.getD i ⟨0, 1⟩ = normN (k i) (d i) ∧ validF (normN (k i) (d i)) = true) :
    ∀ m, 0 < m → m ≤ n → bestAt c m < m ∧ (∀ i, i < m → k i * d (bestAt c m) ≤ k (bestAt c m) * d i) ∧ (∀ i, i < bestAt c m → k i * d (bestAt c m) < k (bestAt c m) * d i) := by
  have hcmp : ∀ i j, i < n → j < n → (0 < cmpF (c.getD i ⟨0, 1⟩) (c.getD j ⟨0, 1⟩) ↔ k j * d i < k i * d j) := by
    intro i j hi hj
    obtain ⟨ei, vi⟩ := hc i hi
    obtain ⟨ej, vj⟩ := hc j hj
    rw [ei, ej]
    unfold cmpF
    rw [vi, vj]
    simp only [Bool.and_self, if_true]
    obtain ⟨n1, n2⟩ := normN_val (k i) (d i) (hd i hi)
    obtain ⟨n3, n4⟩ := normN_val (k j) (d j) (hd j hj)
    have hx := cross_le n1 n3 (by omega) (by omega) (hd i hi) (hd j hj)
    generalize (normN (k i) (d i)).num * (normN (k j) (d j)).den = A at *
    generalize (normN (k j) (d j)).num * (normN (k i) (d i)).den = B at *
    by_cases h1 : A < B
    · rw [if_pos h1]
      have := hx.1 (by omega)
      omega
    · rw [if_neg h1]
      by_cases h2 : B < A
      · rw [if_pos h2]
        have : ¬ k i * d j ≤ k j * d i := fun h => by have := hx.2 h; omega
        omega
      · rw [if_neg h2]
        have := hx.1 (by omega)
        omega
  intro m
  induction m with
  | zero => intro h; omega
  | succ m ih =>
    intro _ hm
    by_cases h0 : m = 0
    · subst h0
      have : bestAt c 1 = 0 := by
        show (if 0 < cmpF (c.getD 0 ⟨0, 1⟩) (c.getD 0 ⟨0, 1⟩) then 0 else 0) = 0
        split <;> rfl
      rw [this]
      refine ⟨by omega, fun i hi => ?_, fun i hi => by omega⟩
      obtain rfl : i = 0 := by omega
      exact Int.le_refl _
    · obtain ⟨i1, i2, i3⟩ := ih (by omega) (by omega)
      rw [bestAt]
      by_cases hq : 0 < cmpF (c.getD m ⟨0, 1⟩) (c.getD (bestAt c m) ⟨0, 1⟩)
      · rw [if_pos hq]
        have h1 := (hcmp m (bestAt c m) (by omega) (by omega)).1 hq
        have key : ∀ i, i < m → k i * d m < k m * d i := fun i hi => by
          have h2 := i2 i hi
          rcases Int.lt_or_le (k i * d m) (k m * d i) with h | h
          · exact h
          · have := cross_trans (hd m (by omega)) (hd i (by omega)) (hd _ (by omega)) h h2
            omega
        refine ⟨by omega, fun i hi => ?_, key⟩
        by_cases e : i = m
        · subst e; exact Int.le_refl _
        · have := key i (by omega); omega
      · rw [if_neg hq]
        have h1 : ¬ k (bestAt c m) * d m < k m * d (bestAt c m) := fun h => hq ((hcmp m (bestAt c m) (by omega) (by omega)).2 h)
        refine ⟨by omega, fun i hi => ?_, i3⟩
        by_cases e : i = m
        · subst e; omega
        · exact i2 i (by omega)

/-- There is one first greatest. -/
theorem first_greatest {n p b : Nat} {k d : Nat → Int} (hp : p < n) (hb : b < n)
    (p1 : ∀ i, i < n → k i * d p ≤ k p * d i) (p2 : ∀ i, i < p → k i * d p < k p * d i)
    (b1 : ∀ i, i < n → k i * d b ≤ k b * d i) (b2 : ∀ i, i < b → k i * d b < k b * d i) : b = p := by
  rcases Nat.lt_trichotomy b p with h | h | h
  · have := p2 b h; have := b1 p hp; omega
  · exact h
  · have := b2 p h; have := p1 b hb; omega

/-! ### The order of a split -/
theorem compareInt_neg (a b : Int) : (Lib.compareInt a b < 0) ↔ a < b := by
  unfold Lib.compareInt
  split
  · omega
  · split <;> omega

theorem cmpP_neg (total : Int) (l : List Frac) (i j : Nat) : ltC (cmpP total l) i j = decide (cutN total (l.getD j ⟨0, 1⟩) * (l.getD i ⟨0, 1⟩).den < cutN total (l.getD i ⟨0, 1⟩) * (l.getD j ⟨0, 1⟩).den) := by
  unfold ltC cmpP
  rw [Bool.eq_iff_iff, decide_eq_true_eq, decide_eq_true_eq]
  exact compareInt_neg _ _

theorem cmpP_swo {total : Int} {l : List Frac} (hd : ∀ i, 0 < (l.getD i ⟨0, 1⟩).den) : SWO (ltC (cmpP total l)) where
  irrefl x := by rw [cmpP_neg]; simp
  trans x y z h1 h2 := by
    rw [cmpP_neg, decide_eq_true_eq] at *
    generalize cutN total (l.getD x ⟨0, 1⟩) = a at *
    generalize cutN total (l.getD y ⟨0, 1⟩) = b at *
    generalize cutN total (l.getD z ⟨0, 1⟩) = c at *
    have dx := hd x
    have dy := hd y
    have dz := hd z
    generalize (l.getD x ⟨0, 1⟩).den = p at *
    generalize (l.getD y ⟨0, 1⟩).den = q at *
    generalize (l.getD z ⟨0, 1⟩).den = r at *
    rcases Int.lt_or_le (c * p) (a * r) with h | h
    · exact h
    · have := cross_trans dx dz dy h (Int.le_of_lt h2)
      omega
  ntrans x y z h1 h2 := by
    rw [cmpP_neg, decide_eq_false_iff_not] at *
    have := cross_trans (hd x) (hd y) (hd z) (Int.not_lt.1 h1) (Int.not_lt.1 h2)
    omega

/-! ### How much is left -/
def nzOf (total : Int) (l : List Frac) : Nat := l.countP (fun f => decide (cutN total f ≠ 0))

theorem base_cut {total : Int} {f : Frac} (h0 : 0 ≤ total) (hn : 0 ≤ f.num) (hd : 0 < f.den) : total * f.num = baseF total f * f.den + cutN total f ∧ 0 ≤ cutN total f ∧ cutN total f < f.den := by
  have h1 : 0 ≤ total * f.num := Int.mul_nonneg h0 hn
  unfold baseF cutN
  rw [Int.tdiv_eq_ediv_of_nonneg h1]
  have := Int.mul_ediv_add_emod (total * f.num) f.den
  rw [Int.mul_comm f.den] at this
  exact ⟨this.symm, Int.emod_nonneg _ (by omega), Int.emod_lt_of_pos _ hd⟩

theorem split_inv2 {total : Int} (h0 : 0 ≤ total) (l : List Frac) (hf : ∀ f ∈ l, frOk f ∧ 0 ≤ f.num) (hs : sumsOk l) : ∀ k, k ≤ l.length →
    total * (sumFr (l.take k)).num ≤ (baseSum total (l.take k) + nzOf total (l.take k)) * (sumFr (l.take k)).den := by
  intro k
  induction k with
  | zero =>
    intro _
    show total * 0 ≤ (baseSum total [] + (0 : Nat)) * 1
    simp [baseSum]
  | succ k ih =>
    intro hk
    have i2 := ih (by omega)
    obtain ⟨_, _, i3, i4⟩ := split_inv h0 l hf hs k (by omega)
    obtain ⟨f1, f2⟩ := hf l[k] (List.getElem_mem _)
    obtain ⟨b1, b2, b3⟩ := base_cut h0 f2 (f := l[k]) (by have := f1.2.2.1; omega)
    have htk : l.take (k + 1) = l.take k ++ [l[k]] := List.take_succ_eq_append_getElem (by omega)
    have hsf : sumFr (l.take (k + 1)) = sumStep (sumFr (l.take k)) l[k] := by
      unfold sumFr; rw [htk, List.foldl_append]; rfl
    have hbs : baseSum total (l.take (k + 1)) = baseSum total (l.take k) + baseF total l[k] := by
      rw [htk, baseSum_append]; simp [baseSum]
    obtain ⟨e, he, hb4⟩ : ∃ e : Nat, nzOf total (l.take (k + 1)) = nzOf total (l.take k) + e ∧ total * l[k].num ≤ (baseF total l[k] + e) * l[k].den := by
      refine ⟨if cutN total l[k] ≠ 0 then 1 else 0, ?_, ?_⟩
      · unfold nzOf
        rw [htk, List.countP_append]
        by_cases h : cutN total l[k] = 0 <;> simp [h]
      · rw [b1, Int.add_mul]
        by_cases h : cutN total l[k] = 0
        · rw [if_neg (by simpa using h), h]; simp
        · rw [if_pos h]; simp; omega
    rw [hsf, hbs, he]
    clear hsf hbs htk he b1 b2 b3
    generalize l[k] = f at *
    generalize sumFr (l.take k) = a at *
    generalize baseSum total (l.take k) = S at *
    generalize baseF total f = b at *
    generalize nzOf total (l.take k) = z at *
    have hfd : 1 ≤ f.den := f1.2.2.1
    have hD : 0 < a.den * f.den := Int.mul_pos (by omega) (by omega)
    obtain ⟨n1, n2⟩ := normN_val (a.num * f.den + f.num * a.den) (a.den * f.den) hD
    have e0 : sumStep a f = normN (a.num * f.den + f.num * a.den) (a.den * f.den) := rfl
    rw [← e0] at n1 n2
    generalize sumStep a f = c at *
    clear e0
    have c3 : (total * a.num) * f.den ≤ ((S + z) * a.den) * f.den := Int.mul_le_mul_of_nonneg_right i2 (by omega)
    have c4 : (total * f.num) * a.den ≤ ((b + e) * f.den) * a.den := Int.mul_le_mul_of_nonneg_right hb4 (by omega)
    have s3 : ((S + z) * a.den) * f.den = (S + z) * (a.den * f.den) := Int.mul_assoc _ _ _
    have s4 : ((b + e) * f.den) * a.den = (b + e) * (a.den * f.den) := by rw [Int.mul_assoc, Int.mul_comm f.den]
    have s5 : total * (a.num * f.den + f.num * a.den) = (total * a.num) * f.den + (total * f.num) * a.den := by rw [Int.mul_add, ← Int.mul_assoc, ← Int.mul_assoc]
    generalize a.den * f.den = D at *
    have t2 : total * (a.num * f.den + f.num * a.den) ≤ (S + b + ((z + e : Nat) : Int)) * D := by
      have e : (S + b + ((z + e : Nat) : Int)) * D = (S + z) * D + (b + e) * D := by rw [← Int.add_mul]; congr 1; omega
      rw [s5, e]; omega
    generalize a.num * f.den + f.num * a.den = N at *
    have u2 : (total * c.num) * D ≤ ((S + b + ((z + e : Nat) : Int)) * c.den) * D := by
      have e1 : ((S + b + ((z + e : Nat) : Int)) * c.den) * D = ((S + b + ((z + e : Nat) : Int)) * D) * c.den := by rw [Int.mul_assoc, Int.mul_comm c.den, ← Int.mul_assoc]
      have e2 : (total * c.num) * D = (total * N) * c.den := by rw [Int.mul_assoc, n1, ← Int.mul_assoc]
      rw [e1, e2]
      exact Int.mul_le_mul_of_nonneg_right t2 (by omega)
    exact Int.le_of_mul_le_mul_right u2 hD

theorem splitLeft_nz {total : Int} {l : List Frac} (h : splitFine total l = true) (hs : sumsOk l) : splitLeft total l ≤ nzOf total l := by
  obtain ⟨h1, h2, h3⟩ := fine_all h
  have hf : ∀ f ∈ l, frOk f ∧ 0 ≤ f.num := fun f hf => ⟨(h3 f hf).2.1, (h3 f hf).2.2.1⟩
  have hi := split_inv h1 l hf hs l.length (Nat.le_refl _)
  have hj := split_inv2 h1 l hf hs l.length (Nat.le_refl _)
  rw [List.take_length] at hi hj
  obtain ⟨i1, i2, i3, i4⟩ := hi
  have hn : 0 ≤ total * (sumFr l).num := Int.mul_nonneg h1 i4
  unfold splitLeft
  rw [Int.tdiv_eq_ediv_of_nonneg hn]
  have j2 : total * (sumFr l).num / (sumFr l).den ≤ baseSum total l + nzOf total l := by
    have := Int.ediv_le_ediv (show 0 < (sumFr l).den by omega) hj
    rw [Int.mul_ediv_cancel _ (by omega)] at this
    exact this
  omega
end Lg

/-
  Walks: valid fractions, as the reference of claims has them.
-/
namespace Go.Proofs.YtollegoajlfdiaaGreat
open Go.RowKit Lg Go.Sort

set_option maxRecDepth 100000 in
set_option maxHeartbeats 1600000 in
theorem valid5_any (f : Frac) (w : World) : Calls Tryz.prog 110 #[aF f] w (Gives w (.bool (validF f))) := by
  obtain ⟨q, hq⟩ : ∃ q, q = validF f := ⟨_, rfl⟩
  rw [← hq]
  unfold validF at hq
  have kB := Blk.new w 24 #[.int .i64 f.num, .int .i64 f.den]
  have c0 := kB.cell
  have hb : RowKit.Below w.heap.size w (w.alloc (.cells #[.int .i64 f.num, .int .i64 f.den] 24)) := (Below.refl _ w).alloc (Nat.le_refl _) _
  have h1 := fun W => withinr5_any f.den 1 1000000 W
  have h2 := fun W => withinr5_any f.num (-1000000000000) 1000000000000 W
  rcases Bool.eq_false_or_eq_true (inn f.den 1 1000000) with q1 | q1
  · rcases Bool.eq_false_or_eq_true (inn f.num (-1000000000000) 1000000000000) with q2 | q2
    · have b1 := (inn_iff _ _ _).1 q1
      have b2 := (inn_iff _ _ _).1 q2
      have h3 := fun W => divisor5_any f.num f.den W ⟨by omega, by omega⟩ ⟨by omega, by omega⟩
      rw [q1] at h1
      rw [q2] at h2
      rw [q1, q2] at hq
      simp only [Bool.true_and] at hq
      by_cases hg : Int.gcd f.num f.den = 1
      · rw [decide_eq_true hg] at hq
        subst hq
        rw [hg] at h3
        clear q1 q2 b1 b2 hg
        go_enter Tryz.func110, Tryz.ntmps110
        go_wp2_with (first
          | (go_at_call 109; (first | (with_reducible refine (h1 _).mono ?_) | (with_reducible refine (h2 _).mono ?_)); rintro e w3 ⟨rfl, rfl⟩)
          | (go_at_call 149; (with_reducible refine (h3 _).mono ?_); rintro e w3 ⟨rfl, rfl⟩))
        go_ret
        exact ⟨rfl, hb⟩
      · have g1 : ((Int.gcd f.num f.den : Int) == 1) = false := by simp; omega
        rw [decide_eq_false hg] at hq
        subst hq
        clear q1 q2 b1 b2 hg
        generalize (Int.gcd f.num f.den : Int) = g at *
        go_enter Tryz.func110, Tryz.ntmps110
        go_wp2_with (first
          | (go_at_call 109; (first | (with_reducible refine (h1 _).mono ?_) | (with_reducible refine (h2 _).mono ?_)); rintro e w3 ⟨rfl, rfl⟩)
          | (go_at_call 149; (with_reducible refine (h3 _).mono ?_); rintro e w3 ⟨rfl, rfl⟩))
        go_ret
        exact ⟨rfl, hb⟩
    · rw [q1] at h1
      rw [q2] at h2
      rw [q1, q2] at hq
      simp only [Bool.true_and, Bool.false_and] at hq
      subst hq
      clear q1 q2
      go_enter Tryz.func110, Tryz.ntmps110
      go_wp2_with (go_at_call 109; (first | (with_reducible refine (h1 _).mono ?_) | (with_reducible refine (h2 _).mono ?_)); rintro e w3 ⟨rfl, rfl⟩)
      go_ret
      exact ⟨rfl, hb⟩
  · rw [q1] at h1
    rw [q1] at hq
    simp only [Bool.false_and] at hq
    subst hq
    clear q1 h2
    go_enter Tryz.func110, Tryz.ntmps110
    go_wp2_with (go_at_call 109; (with_reducible refine (h1 _).mono ?_); rintro e w3 ⟨rfl, rfl⟩)
    go_ret
    exact ⟨rfl, hb⟩

set_option maxRecDepth 100000 in
set_option maxHeartbeats 1600000 in
theorem both5_any (a b : Frac) (w : World) : Calls Tryz.prog 151 #[aF a, aF b] w (Gives w (.int .i64 (if (validF a && validF b) = true then 0 else 1))) := by
  obtain ⟨q, hq⟩ : ∃ q : Int, q = (if (validF a && validF b) = true then 0 else 1) := ⟨_, rfl⟩
  rw [← hq]
  obtain ⟨w1, hw1⟩ : ∃ w1, w1 = (w.alloc (.cells (cF a).toArray 24)).alloc (.cells (cF b).toArray 24) := ⟨_, rfl⟩
  have kA : Blk w1 w.heap.size (cF a).toArray 24 := hw1 ▸ (Blk.new w _ _).alloc _
  have kB : Blk w1 (w.heap.size + 1) (cF b).toArray 24 := by
    have := Blk.new (w.alloc (.cells (cF a).toArray 24)) 24 (cF b).toArray
    rw [hw1]; simpa using this
  have hb1 : RowKit.Below w.heap.size w w1 := hw1 ▸ ((Below.refl _ w).alloc (Nat.le_refl _) _).alloc (by simp) _
  have hA := fun W => valid5_any a W
  have hB := fun W => valid5_any b W
  have cA := kA.cell
  have cB := kB.cell
  cases ha : validF a <;> cases hv : validF b
  all_goals
    rw [ha] at hA hq
    rw [hv] at hB hq
    simp only [Bool.and_self, Bool.and_true, Bool.and_false, Bool.false_eq_true, if_true, if_false] at hq
    subst hq
    clear ha hv
    go_enter Tryz.func151, Tryz.ntmps151
    go_wp2_with (fail)
    rw [← hw1]
    refine (hA w1).mono ?_
    rintro e w2 ⟨rfl, hB2⟩
    have kA2 := kA.below' hB2
    have kB2 := kB.below' hB2
    have hb2 := hb1.trans (hB2.mono hb1.size)
    have cB2 := kB2.cell
    clear cA cB
    go_wp2_with (fail)
    refine (hB w2).mono ?_
    rintro e w3 ⟨rfl, hB3⟩
    go_wp2_with (fail)
    go_ret
    exact ⟨rfl, hb2.trans (hB3.mono hb2.size)⟩

end Go.Proofs.YtollegoajlfdiaaGreat

/-
  Walks: fractions in lowest terms, sums of two, comparisons, as the reference of claims has them.
-/
namespace Go.Proofs.YtollegoajlfdiaaGreat
open Go.RowKit Lg Go.Sort

theorem putF (w : World) (B : Nat) (x : Frac) : ((w.setCell ⟨B, 0, none⟩ (.int .i64 x.num)).setCell ⟨B, 1, none⟩ (.int .i64 x.den)) = w.setCells B 0 (cF x) := rfl
theorem putF0 (w : World) (B : Nat) : ((w.setCell ⟨B, 0, none⟩ (.int .i64 0)).setCell ⟨B, 1, none⟩ (.int .i64 0)) = w.setCells B 0 (cF ⟨0, 0⟩) := rfl
theorem setAll_zeroF (z : Frac) : setAll #[.int .i64 0, .int .i64 0] 0 (cF z) = (cF z).toArray := rfl

theorem tdiv_wide {a g : Int} (ha : -4000000000000000000 ≤ a ∧ a ≤ 4000000000000000000) : -4000000000000000000 ≤ a.tdiv g ∧ a.tdiv g ≤ 4000000000000000000 := by
  have h := Int.natAbs_tdiv_le_natAbs a g
  omega

set_option maxRecDepth 100000 in
set_option maxHeartbeats 1600000 in
theorem lowest5_any (num den : Int) (w : World) (hn : -4000000000000000000 ≤ num ∧ num ≤ 4000000000000000000) (hd : 0 < den ∧ den ≤ 4000000000000000000) :
    Calls Tryz.prog 112 #[.int .i64 num, .int .i64 den] w (Gives w (.tuple #[aF (lowF num den).1, .int .i64 (lowF num den).2])) := by
  have h3 := fun W => divisor5_any num den W hn ⟨by omega, by omega⟩
  have hg := gcd_pos_of_den (num := num) (den := den) (by omega)
  obtain ⟨r, hr⟩ : ∃ r, r = lowF num den := ⟨_, rfl⟩
  rw [← hr]
  unfold lowF at hr
  rw [← validF_normN hd.1] at hr
  have e1 : normN num den = ⟨num.tdiv (Int.gcd num den : Int), den.tdiv (Int.gcd num den : Int)⟩ := by
    unfold normN normD; rw [if_neg (by omega)]
  rw [e1] at hr
  clear e1
  have b1 := tdiv_wide (g := (Int.gcd num den : Int)) hn
  have b2 := tdiv_wide (a := den) (g := (Int.gcd num den : Int)) ⟨by omega, by omega⟩
  obtain ⟨g, hgd⟩ : ∃ g : Int, g = (Int.gcd num den : Int) := ⟨_, rfl⟩
  rw [← hgd] at h3 hr b1 b2
  have hg0 : 0 < g := by omega
  have hg1 : (g == 0) = false := by simp; omega
  have hg2 : g ≠ 0 := by omega
  obtain ⟨p, hp⟩ : ∃ p, num.tdiv g = p := ⟨_, rfl⟩
  obtain ⟨q, hq⟩ : ∃ q, den.tdiv g = q := ⟨_, rfl⟩
  rw [hp, hq] at hr
  rw [hp] at b1
  rw [hq] at b2
  have wp1 : IntKind.i64.wrap p = p := by rw [IntKind.wrap_i64]; omega
  have wq1 : IntKind.i64.wrap q = q := by rw [IntKind.wrap_i64]; omega
  have k0 : Blk (w.alloc (.cells #[.int .i64 0, .int .i64 0] 24)) w.heap.size #[.int .i64 0, .int .i64 0] 24 := Blk.new w _ _
  have hb0 : RowKit.Below w.heap.size w (w.alloc (.cells #[.int .i64 0, .int .i64 0] 24)) := (Below.refl _ w).alloc (Nat.le_refl _) _
  have hv := fun W => valid5_any ⟨p, q⟩ W
  have Hr := Lib.hid hr
  clear hr hg hgd hn hd b1 b2
  go_enter Tryz.func112, Tryz.ntmps112
  go_wp2_with (fail)
  refine (h3 _).mono ?_
  rintro e w3 ⟨rfl, rfl⟩
  obtain ⟨w1, hw1⟩ : ∃ w1, w1 = w.alloc (.cells #[.int .i64 0, .int .i64 0] 24) := ⟨_, rfl⟩
  rw [← hw1] at k0 hb0 ⊢
  clear hw1 h3
  go_wp2_with (fail)
  go_region
  obtain ⟨w2, hw2⟩ : ∃ w2, w2 = (w1.alloc (.cells #[.int .i64 p, .int .i64 q] 24)).drew := ⟨_, rfl⟩
  rw [← hw2]
  have k2 : Blk w2 w1.heap.size #[.int .i64 p, .int .i64 q] 24 := hw2 ▸ (Blk.new w1 _ _).drew
  have k02 : Blk w2 w.heap.size #[.int .i64 0, .int .i64 0] 24 := hw2 ▸ (k0.alloc _).drew
  have hb2 : RowKit.Below w.heap.size w w2 := hw2 ▸ (hb0.alloc hb0.size _).drew
  clear hw2 k0 hb0
  have c2 := k2.cell
  go_wp2_with (fail)
  refine (hv w2).mono ?_
  rintro e w3 ⟨rfl, hB3⟩
  have k3 := k2.below' hB3
  have k03 := k02.below' hB3
  have hb3 := hb2.trans (hB3.mono hb2.size)
  clear c2 k2 k02 hb2 hB3 hv
  have c3 := k3.cell
  have c0 := k03.cell
  have f0 := k03.frozen
  have l0 := k03.lt
  generalize w1.heap.size = B1 at *
  cases hvv : validF ⟨p, q⟩ with
  | true =>
    have hr := Hr.out
    rw [hvv, if_pos rfl] at hr
    subst hr
    clear Hr hvv
    go_wp2_with (fail)
    have hbl : Blk (w3.setCells w.heap.size 0 (cF ⟨p, q⟩)) w.heap.size (cF ⟨p, q⟩).toArray 24 := by
      rw [← setAll_zeroF ⟨p, q⟩]
      exact k03.setCells 0 (cF ⟨p, q⟩)
    rw [putF w3 w.heap.size ⟨p, q⟩]
    (try simp only [Exit.inBlock, Exit.then]); refine bodyPost_ret (results_cell_tmp rfl _ _ w.heap.size 24 (cF ⟨p, q⟩) _ rfl hbl Tryz.underlying24 rfl (by kernel_rfl)) rfl ?_
    exact ⟨rfl, below_setCells hb3 (Nat.le_refl _) _ _⟩
  | false =>
    have hr := Hr.out
    rw [hvv, if_neg (by simp)] at hr
    subst hr
    clear Hr hvv
    go_wp2_with (fail)
    have hbl : Blk (w3.setCells w.heap.size 0 (cF ⟨0, 0⟩)) w.heap.size (cF ⟨0, 0⟩).toArray 24 := by
      rw [← setAll_zeroF ⟨0, 0⟩]
      exact k03.setCells 0 (cF ⟨0, 0⟩)
    rw [putF0 w3 w.heap.size]
    (try simp only [Exit.inBlock, Exit.then]); refine bodyPost_ret (results_cell_tmp rfl _ _ w.heap.size 24 (cF ⟨0, 0⟩) _ rfl hbl Tryz.underlying24 rfl (by kernel_rfl)) rfl ?_
    exact ⟨rfl, below_setCells hb3 (Nat.le_refl _) _ _⟩

end Go.Proofs.YtollegoajlfdiaaGreat
