import Derived.Test.YtollegoajlfdiaaGreatPart01
/-
  Plain laws: equal parts add up; sums of shares; more money; the change between two lists.
-/
namespace Lg
open Go

/-! ### Equal parts -/
theorem eqVal_floor {m : Int} {n i : Nat} (h : 0 ≤ m) (hi : i < n) : eqVal m n i = (m + (n : Int) - 1 - i) / n := by
  have hn : (0 : Int) < n := by omega
  have h1 := Int.emod_nonneg m (show (n : Int) ≠ 0 by omega)
  have h2 := Int.emod_lt_of_pos m hn
  have h3 := Int.mul_ediv_add_emod m n
  unfold eqVal
  rw [Int.tdiv_eq_ediv_of_nonneg h]
  generalize m / (n : Int) = q at *
  generalize m % (n : Int) = r at *
  have e : m + (n : Int) - 1 - i = (r + n - 1 - i) + q * n := by rw [Int.mul_comm q n]; omega
  rw [e, Int.add_mul_ediv_right _ _ (by omega)]
  by_cases c : (i : Int) < r
  · rw [if_pos c]
    have : (r + n - 1 - i) / (n : Int) = 1 := by
      have e2 : r + (n : Int) - 1 - i = (r - 1 - i) + 1 * n := by omega
      rw [e2, Int.add_mul_ediv_right _ _ (by omega), Int.ediv_eq_zero_of_lt (by omega) (by omega)]; omega
    omega
  · rw [if_neg c]
    have : (r + n - 1 - i) / (n : Int) = 0 := Int.ediv_eq_zero_of_lt (by omega) (by omega)
    omega

theorem eqVal_mono {m m' : Int} {n i : Nat} (h : 0 ≤ m) (hm : m ≤ m') (hi : i < n) : eqVal m n i ≤ eqVal m' n i := by
  rw [eqVal_floor h hi, eqVal_floor (by omega) hi]
  exact Int.ediv_le_ediv (by omega) (by omega)

/-- The sum of the first k equal parts. -/
def eqSum (m : Int) (n : Nat) : Nat → Int
  | 0 => 0
  | k + 1 => eqSum m n k + eqVal m n k

theorem eqSum_eq (m : Int) (n k : Nat) (h : 0 ≤ m) (hn : 0 < n) : eqSum m n k = k * (m / (n : Int)) + min (k : Int) (m % (n : Int)) := by
  have h1 := Int.emod_nonneg m (show (n : Int) ≠ 0 by omega)
  induction k with
  | zero => simp [eqSum]; omega
  | succ k ih =>
    rw [eqSum, ih]
    unfold eqVal
    rw [Int.tdiv_eq_ediv_of_nonneg h]
    generalize m / (n : Int) = q at *
    generalize m % (n : Int) = r at *
    rw [Int.natCast_add, Int.add_mul, Int.natCast_one, Int.one_mul]
    split <;> omega

theorem eqSum_all (m : Int) (n : Nat) (h : 0 ≤ m) (hn : 0 < n) : eqSum m n n = m := by
  have h2 := Int.emod_lt_of_pos m (show (0 : Int) < n by omega)
  have h3 := Int.mul_ediv_add_emod m n
  rw [eqSum_eq m n n h hn]
  omega

theorem eqSum_bound (m : Int) (n k : Nat) (h : 0 ≤ m) (hn : 0 < n) (hk : k ≤ n) : 0 ≤ eqSum m n k ∧ eqSum m n k ≤ m := by
  have key : ∀ j, j ≤ k → eqSum m n j ≤ eqSum m n k ∧ 0 ≤ eqSum m n j := by
    intro j hj
    obtain ⟨d, rfl⟩ := Nat.exists_eq_add_of_le hj
    clear hj hk
    constructor
    · induction d with
      | zero => exact Int.le_refl _
      | succ d ih => rw [Nat.add_succ, eqSum]; have := (eqVal_bounds (i := j + d) h hn).1; omega
    · clear d
      induction j with
      | zero => simp [eqSum]
      | succ j ih => rw [eqSum]; have := (eqVal_bounds (i := j) h hn).1; omega
  refine ⟨(key k (Nat.le_refl _)).2, ?_⟩
  have h2 : ∀ d, eqSum m n k ≤ eqSum m n (k + d) := fun d => by
    induction d with
    | zero => exact Int.le_refl _
    | succ d ih => rw [Nat.add_succ, eqSum]; have := (eqVal_bounds (i := k + d) h hn).1; omega
  have := h2 (n - k)
  rw [Nat.add_sub_cancel' hk, eqSum_all m n h hn] at this
  exact this

theorem eqVal_order {m : Int} {n i : Nat} (h : 0 ≤ m) (hn : 0 < n) : eqVal m n i ≤ eqVal m n 0 ∧ eqVal m n 0 - eqVal m n i ≤ 1 ∧ eqVal m n (i + 1) ≤ eqVal m n i := by
  have h1 := Int.emod_nonneg m (show (n : Int) ≠ 0 by omega)
  unfold eqVal
  rw [Int.tdiv_eq_ediv_of_nonneg h]
  generalize m / (n : Int) = q at *
  generalize m % (n : Int) = r at *
  refine ⟨?_, ?_, ?_⟩ <;> split <;> split <;> omega

/-! ### Sums of shares -/
def total : List Share → Int
  | [] => 0
  | x :: r => x.pence + total r

theorem total_append (a b : List Share) : total (a ++ b) = total a + total b := by
  induction a with
  | nil => rw [List.nil_append, total]; omega
  | cons x r ih => rw [List.cons_append, total, total, ih]; omega

/-- The sum of f over the parties below n. -/
def over (f : Int → Int) : Nat → Int
  | 0 => 0
  | n + 1 => over f n + f n

theorem over_add (f g : Int → Int) (n : Nat) : over (fun p => f p + g p) n = over f n + over g n := by
  induction n with
  | zero => rfl
  | succ n ih => rw [over, over, over, ih]; omega

theorem over_one (q v : Int) (n : Nat) : over (fun p => if q = p then v else 0) n = if 0 ≤ q ∧ q < n then v else 0 := by
  induction n with
  | zero => rw [over, if_neg (by omega)]
  | succ n ih =>
    rw [over, ih]
    by_cases e : q = (n : Int)
    · subst e; rw [if_neg (by omega), if_pos rfl, if_pos (by omega)]; omega
    · by_cases h : 0 ≤ q ∧ q < n
      · rw [if_pos h, if_neg e, if_pos (by omega)]; omega
      · rw [if_neg h, if_neg e, if_neg (by omega)]; omega

theorem over_zero (n : Nat) : over (fun _ => 0) n = 0 := by
  induction n with
  | zero => rfl
  | succ n ih => rw [over, ih]; omega

theorem total_over (l : List Share) (n : Nat) (h : ∀ x ∈ l, 0 ≤ x.party ∧ x.party < n) : total l = over (sumP l) n := by
  induction l with
  | nil => exact (over_zero n).symm
  | cons x r ih =>
    have e : sumP (x :: r) = fun p => (if x.party = p then x.pence else 0) + sumP r p := rfl
    rw [total, e, over_add, over_one, if_pos (h x List.mem_cons_self), ih (fun y hy => h y (List.mem_cons_of_mem _ hy))]

theorem sumP_not {l : List Share} {p : Int} (h : p ∉ l.map Share.party) : sumP l p = 0 := by
  induction l with
  | nil => rfl
  | cons x r ih =>
    rw [List.map_cons, List.mem_cons, not_or] at h
    rw [sumP, if_neg (fun e => h.1 e.symm), ih h.2]; omega

theorem sumP_one {l : List Share} (hn : (l.map Share.party).Nodup) {x : Share} (hx : x ∈ l) : sumP l x.party = x.pence := by
  induction l with
  | nil => simp at hx
  | cons a r ih =>
    rw [List.map_cons, List.nodup_cons] at hn
    rcases List.mem_cons.1 hx with rfl | hx
    · rw [sumP, if_pos rfl, sumP_not hn.1]; omega
    · have : a.party ≠ x.party := fun e => hn.1 (e ▸ List.mem_map.2 ⟨x, hx, rfl⟩)
      rw [sumP, if_neg this, ih hn.2 hx]; omega

theorem listOf_nodup {f : Int → Int} {ys : List Share} (h : ListOf f ys) : (ys.map Share.party).Nodup := h.1.imp (fun h => by omega)

/-- What a party has in a list of sums. -/
theorem listOf_sum {f : Int → Int} {ys : List Share} (h : ListOf f ys) (p : Int) : sumP ys p = f p := by
  by_cases hp : p ∈ ys.map Share.party
  · obtain ⟨x, hx, rfl⟩ := List.mem_map.1 hp
    rw [sumP_one (listOf_nodup h) hx]
    exact (h.2.1 x hx).1
  · rw [sumP_not hp]
    by_cases e : f p = 0
    · exact e.symm
    · exact absurd (h.2.2 p e) hp

theorem sumP_party {l : List Share} {p : Int} (h : sumP l p ≠ 0) : ∃ x ∈ l, x.party = p := by
  by_cases hp : p ∈ l.map Share.party
  · obtain ⟨x, hx, e⟩ := List.mem_map.1 hp
    exact ⟨x, hx, e⟩
  · exact absurd (sumP_not hp) h

theorem listOf_total {raw ys : List Share} (h : ListOf (sumP raw) ys) (n : Nat) (hb : ∀ x ∈ raw, 0 ≤ x.party ∧ x.party < n) : total ys = total raw := by
  rw [total_over raw n hb, total_over ys n]
  · congr 1
    funext p
    exact listOf_sum h p
  · intro x hx
    obtain ⟨y, hy, e⟩ := sumP_party (h.2.1 x hx).2
    rw [← e]; exact hb y hy

theorem listOf_unique {f : Int → Int} {ys zs : List Share} (h : ListOf f ys) (k : ListOf f zs) : ys = zs := by
  have hp : ys.map Share.party = zs.map Share.party := by
    refine List.Perm.eq_of_pairwise (le := (· < ·)) (fun a b _ _ h1 h2 => by omega) h.1 k.1 ?_
    refine (List.perm_ext_iff_of_nodup (listOf_nodup h) (listOf_nodup k)).2 (fun p => ?_)
    constructor
    · intro hp
      obtain ⟨x, hx, rfl⟩ := List.mem_map.1 hp
      exact k.2.2 _ (h.2.1 x hx).2
    · intro hp
      obtain ⟨x, hx, rfl⟩ := List.mem_map.1 hp
      exact h.2.2 _ (k.2.1 x hx).2
  have e : ∀ l : List Share, (∀ x ∈ l, x.pence = f x.party) → l = (l.map Share.party).map fun p => Share.mk p (f p) := fun l hl => by
    rw [List.map_map]
    conv => lhs; rw [← List.map_id l]
    refine List.map_congr_left (fun x hx => ?_)
    show x = Share.mk x.party (f x.party)
    rw [← hl x hx]
  rw [e ys (fun x hx => (h.2.1 x hx).1), e zs (fun x hx => (k.2.1 x hx).1), hp]

theorem listOf_neg {f : Int → Int} {ys : List Share} (h : ListOf f ys) : ListOf (fun p => - f p) (ys.map fun x => Share.mk x.party (-x.pence)) := by
  obtain ⟨h1, h2, h3⟩ := h
  have e : (ys.map fun x => Share.mk x.party (-x.pence)).map Share.party = ys.map Share.party := by rw [List.map_map]; rfl
  refine ⟨by rw [e]; exact h1, fun x hx => ?_, fun p hp => ?_⟩
  · obtain ⟨y, hy, rfl⟩ := List.mem_map.1 hx
    have := h2 y hy
    dsimp only
    omega
  · have hp' : - f p ≠ 0 := hp
    rw [e]; exact h3 p (by omega)

/-! ### Awards -/
theorem awRaw_total {r : Rate} {s : Sale} {fs : List Int} (h : (feesOf r s).2 = 0) (hp : partiesOk fs = true) : total (awRaw r s fs) = awCart r s + awStore r s + awFind r s := by
  have hn : 0 < fs.length := by
    unfold partiesOk at hp
    simp only [Bool.and_eq_true, inn_iff] at hp
    omega
  have hf := (aw_bounds h).2.2.2.2.1
  unfold awRaw
  rw [total_append]
  have e : ∀ (n : Nat) (m : Int) (gs : List Int) (k : Nat), k + gs.length = n → total (List.zipWith Share.mk gs ((List.range' k gs.length).map (eqVal m n))) = eqSum m n n - eqSum m n k := by
    intro n m gs
    induction gs with
    | nil => intro k hk; simp at hk; subst hk; simp [total]
    | cons g t ih =>
      intro k hk
      rw [List.length_cons, List.range'_succ, List.map_cons, List.zipWith_cons_cons, total, ih (k + 1) (by simp at hk; omega), eqSum]
      dsimp only
      omega
  rw [List.range_eq_range', e fs.length (awFind r s) fs 0 (by omega), eqSum_all _ _ hf hn]
  simp only [total, eqSum]
  omega

theorem sumP_zip (p m m' : Int) (n : Nat) (h : 0 ≤ m) (hm : m ≤ m') : ∀ (gs : List Int) (k : Nat), k + gs.length = n →
    sumP (List.zipWith Share.mk gs ((List.range' k gs.length).map (eqVal m n))) p ≤ sumP (List.zipWith Share.mk gs ((List.range' k gs.length).map (eqVal m' n))) p := by
  intro gs
  induction gs with
  | nil => intro k _; simp [sumP]
  | cons g t ih =>
    intro k hk
    have h1 := ih (k + 1) (by simp at hk; omega)
    have h2 := eqVal_mono (n := n) (i := k) h hm (by simp at hk; omega)
    rw [List.length_cons, List.range'_succ, List.map_cons, List.zipWith_cons_cons, List.map_cons, List.zipWith_cons_cons, sumP, sumP]
    dsimp only
    split <;> omega

/-- Who gets what of more. -/
theorem sumP_raw_mono {r q : Rate} {s t : Sale} {fs : List Int} (h1 : awCart r s ≤ awCart q t) (h2 : awStore r s ≤ awStore q t) (h3 : awFind r s ≤ awFind q t) (h4 : s.carter = t.carter) (h5 : s.keeper = t.keeper) (h0 : 0 ≤ awFind r s) (p : Int) :
    sumP (awRaw r s fs) p ≤ sumP (awRaw q t fs) p := by
  unfold awRaw
  rw [sumP_append, sumP_append, List.range_eq_range']
  have := sumP_zip p _ _ fs.length h0 h3 fs 0 (by omega)
  simp only [sumP, h4, h5]
  split <;> split <;> omega

def cutF (price : Int) (f : Frac) : Int := (price * f.num).tdiv f.den

theorem cutF_eq {price : Int} {f : Frac} (hp : 0 ≤ price) (hf : partOk f = true) : cutF price f = price * f.num / f.den := by
  obtain ⟨f1, _, _, _⟩ := partOk_bounds hf
  unfold cutF
  exact Int.tdiv_eq_ediv_of_nonneg (Int.mul_nonneg hp f1)

theorem cutF_more {p p' : Int} {f : Frac} (hp : 0 ≤ p) (h : p ≤ p') (hf : partOk f = true) : 0 ≤ cutF p f ∧ cutF p f ≤ cutF p' f ∧ cutF p' f - cutF p f ≤ p' - p := by
  obtain ⟨f1, f2, f3, _⟩ := partOk_bounds hf
  rw [cutF_eq hp hf, cutF_eq (by omega) hf]
  have h0 : 0 ≤ p * f.num := Int.mul_nonneg hp f1
  refine ⟨Int.ediv_nonneg h0 (by omega), Int.ediv_le_ediv (by omega) (Int.mul_le_mul_of_nonneg_right h f1), ?_⟩
  have e : p' * f.num ≤ p * f.num + (p' - p) * f.den := by
    have h1 : p' * f.num = p * f.num + (p' - p) * f.num := by rw [← Int.add_mul]; congr 1; omega
    have h2 : (p' - p) * f.num ≤ (p' - p) * f.den := Int.mul_le_mul_of_nonneg_left f2 (by omega)
    omega
  have h3 := Int.ediv_le_ediv (show 0 < f.den by omega) e
  rw [Int.add_mul_ediv_right _ _ (by omega)] at h3
  omega

theorem cutF_part {p : Int} {f g : Frac} (hp : 0 ≤ p) (hf : partOk f = true) (hg : partOk g = true) (h : f.num * g.den ≤ g.num * f.den) : cutF p f ≤ cutF p g := by
  obtain ⟨f1, f2, f3, _⟩ := partOk_bounds hf
  obtain ⟨g1, g2, g3, _⟩ := partOk_bounds hg
  rw [cutF_eq hp hf, cutF_eq hp hg, Int.le_ediv_iff_mul_le (by omega)]
  have h1 : p * f.num / f.den * f.den ≤ p * f.num := Int.ediv_mul_le _ (by omega)
  generalize p * f.num / f.den = x at *
  have h2 : x * f.den * g.den ≤ p * f.num * g.den := Int.mul_le_mul_of_nonneg_right h1 (by omega)
  have h3 : p * (f.num * g.den) ≤ p * (g.num * f.den) := Int.mul_le_mul_of_nonneg_left h hp
  have h4 : (x * g.den) * f.den ≤ (p * g.num) * f.den := by
    have e1 : x * f.den * g.den = x * g.den * f.den := by rw [Int.mul_assoc, Int.mul_comm f.den, ← Int.mul_assoc]
    have e2 : p * f.num * g.den = p * (f.num * g.den) := Int.mul_assoc _ _ _
    have e3 : p * g.num * f.den = p * (g.num * f.den) := Int.mul_assoc _ _ _
    omega
  exact Int.le_of_mul_le_mul_right h4 (by omega)

theorem awFind_eq (r : Rate) (s : Sale) : awFind r s = min (cutF s.price r.finder) (s.price - awCart r s - awStore r s) := rfl

theorem more_price {r : Rate} {s t : Sale} (hs : (feesOf r s).2 = 0) (ht : (feesOf r t).2 = 0) (he : t = { s with price := t.price }) (h : s.price ≤ t.price) :
    awCart r s ≤ awCart r t ∧ awStore r s ≤ awStore r t ∧ awFind r s ≤ awFind r t ∧ awRest r s ≤ awRest r t := by
  have hfe : (feesOf r t).1 = (feesOf r s).1 := by
    rw [(feesOf_ok hs).2.2.2.2, (feesOf_ok ht).2.2.2.2, he]
  obtain ⟨a1, a2, a3, a4, a5, a6, _, _, _, _, a7⟩ := fees_bounds hs
  have hc := cutF_more (p := s.price) (p' := t.price) (by omega) h a7
  have hw1 : awRest r s = s.price - awCart r s - awStore r s - awFind r s := rfl
  have hw2 : awRest r t = t.price - awCart r t - awStore r t - awFind r t := rfl
  rw [awFind_eq, awFind_eq, hw1, hw2, awFind_eq, awFind_eq]
  have c1 : awCart r s = min (feesOf r s).1.1 s.price := rfl
  have c2 : awCart r t = min (feesOf r s).1.1 t.price := by unfold awCart; rw [hfe]
  have d1 : awStore r s = min (feesOf r s).1.2 (s.price - awCart r s) := rfl
  have d2 : awStore r t = min (feesOf r s).1.2 (t.price - awCart r t) := by unfold awStore; rw [hfe]
  generalize (feesOf r s).1.1 = c at *
  generalize (feesOf r s).1.2 = d at *
  omega

theorem more_part {r q : Rate} {s : Sale} (hr : (feesOf r s).2 = 0) (hq : (feesOf q s).2 = 0) (he : q = { r with finder := q.finder }) (h : r.finder.num * q.finder.den ≤ q.finder.num * r.finder.den) :
    awRest q s ≤ awRest r s ∧ awFind r s ≤ awFind q s := by
  have hfe : (feesOf q s).1 = (feesOf r s).1 := by
    rw [(feesOf_ok hr).2.2.2.2, (feesOf_ok hq).2.2.2.2, he]
  obtain ⟨a1, a2, a3, a4, a5, a6, _, _, _, _, a7⟩ := fees_bounds hr
  obtain ⟨_, _, _, _, _, _, _, _, _, _, b7⟩ := fees_bounds hq
  have hc := cutF_part (p := s.price) (by omega) a7 b7 h
  have hw1 : awRest r s = s.price - awCart r s - awStore r s - awFind r s := rfl
  have hw2 : awRest q s = s.price - awCart q s - awStore q s - awFind q s := rfl
  rw [hw1, hw2, awFind_eq, awFind_eq]
  have c1 : awCart r s = min (feesOf r s).1.1 s.price := rfl
  have c2 : awCart q s = min (feesOf r s).1.1 s.price := by unfold awCart; rw [hfe]
  have d1 : awStore r s = min (feesOf r s).1.2 (s.price - awCart r s) := rfl
  have d2 : awStore q s = min (feesOf r s).1.2 (s.price - awCart q s) := by unfold awStore; rw [hfe]
  generalize (feesOf r s).1.1 = c at *
  generalize (feesOf r s).1.2 = d at *
  omega

theorem awRaw_zero {r : Rate} {s : Sale} {fs : List Int} (h : (feesOf r s).2 = 0) (hp : partiesOk fs = true) : ∀ x ∈ awRaw r s fs, x.party = 0 → x.pence = 0 := by
  intro x hx h0
  unfold awRaw at hx
  have hfe := (feesOf_ok h).2.2.2.2
  have hb := aw_bounds h
  rcases List.mem_append.1 hx with hx | hx
  · simp only [List.mem_cons, List.not_mem_nil, or_false] at hx
    rcases hx with rfl | rfl
    · dsimp only at h0 ⊢
      unfold awCart
      rw [hfe, h0]
      have := (fees_bounds h).2.2.2.2.1
      simp; omega
    · dsimp only at h0 ⊢
      have e : awStore r s = min (feesOf r s).1.2 (s.price - awCart r s) := rfl
      have e2 : (feesOf r s).1.2 = 0 := by rw [hfe, h0]; simp
      omega
  · exfalso
    have : x.party ∈ fs := by
      obtain ⟨i, hi⟩ := List.mem_iff_getElem?.1 hx
      rw [List.getElem?_zipWith] at hi
      cases hf : fs[i]? with
      | none => rw [hf] at hi; simp at hi
      | some f =>
        rw [hf] at hi
        cases hv : ((List.range fs.length).map (eqVal (awFind r s) fs.length))[i]? with
        | none => rw [hv] at hi; simp at hi
        | some v => rw [hv] at hi; simp at hi; subst hi; exact List.mem_iff_getElem?.2 ⟨i, hf⟩
    unfold partiesOk at hp
    simp only [Bool.and_eq_true, Bool.not_eq_true', List.any_eq_false] at hp
    have h1 := hp.2 _ this
    simp only [Bool.not_eq_false, inn_iff] at h1
    omega

theorem sumP_nonneg {l : List Share} (h : ∀ x ∈ l, 0 ≤ x.pence) (p : Int) : 0 ≤ sumP l p := by
  induction l with
  | nil => exact Int.le_refl _
  | cons x r ih =>
    have h1 := h x List.mem_cons_self
    have h2 := ih (fun y hy => h y (List.mem_cons_of_mem _ hy))
    rw [sumP]; split <;> omega

theorem sumP_zero {l : List Share} {p : Int} (h : ∀ x ∈ l, x.party = p → x.pence = 0) : sumP l p = 0 := by
  induction l with
  | nil => rfl
  | cons x r ih =>
    have h2 := ih (fun y hy => h y (List.mem_cons_of_mem _ hy))
    rw [sumP, h2]
    by_cases e : x.party = p
    · rw [if_pos e, h x List.mem_cons_self e]; omega
    · rw [if_neg e]; omega

/-- The shares of an award. -/
theorem aw_shares {r : Rate} {s : Sale} {fs : List Int} {ys : List Share} (h : (feesOf r s).2 = 0) (hp : partiesOk fs = true) (hl : ListOf (sumP (awRaw r s fs)) ys) :
    (∀ x ∈ ys, 1 ≤ x.pence ∧ x.pence ≤ 100000000000 ∧ 1 ≤ x.party ∧ x.party ≤ 40 ∧ sumP ys x.party = x.pence) ∧ total ys = awCart r s + awStore r s + awFind r s := by
  have hb := awRaw_bounds h hp
  refine ⟨fun x hx => ?_, ?_⟩
  · obtain ⟨h1, h2⟩ := hl.2.1 x hx
    have h3 := sumP_nonneg (fun y hy => (hb y hy).2.2.1) x.party
    obtain ⟨y, hy, e⟩ := sumP_party h2
    have h4 := hb y hy
    have h5 : x.party ≠ 0 := fun e0 => h2 (by rw [e0]; exact sumP_zero (awRaw_zero h hp))
    have h6 := (sumP_bound (awRaw r s fs) x.party 1000000000 (by omega) (fun z hz => by have := hb z hz; omega)).2
    have h7 : (awRaw r s fs).length ≤ 42 := by
      unfold awRaw
      unfold partiesOk at hp
      simp only [Bool.and_eq_true, inn_iff] at hp
      rw [List.length_append, List.length_zipWith]
      simp; omega
    refine ⟨by omega, by omega, by omega, by omega, sumP_one (listOf_nodup hl) hx⟩
  · rw [listOf_total hl 41 (fun x hx => by have := hb x hx; omega), awRaw_total h hp]

theorem total_bound {l : List Share} {M : Int} (h : ∀ x ∈ l, 0 ≤ x.pence ∧ x.pence ≤ M) : 0 ≤ total l ∧ total l ≤ M * l.length := by
  induction l with
  | nil => simp [total]
  | cons x r ih =>
    have h1 := h x List.mem_cons_self
    have h2 := ih (fun y hy => h y (List.mem_cons_of_mem _ hy))
    rw [total, List.length_cons, Int.natCast_add, Int.mul_add]
    simp; omega

theorem total_take (l : List Share) (k : Nat) (x : Share) (hx : l[k]? = some x) : total (l.take (k + 1)) = total (l.take k) + x.pence := by
  obtain ⟨h1, h2⟩ := List.getElem?_eq_some_iff.1 hx
  rw [List.take_succ_eq_append_getElem h1, h2, total_append]
  simp [total]

/-! ### Change -/
theorem changeErr_swap (a b : List Share) : changeErr a b = 0 ↔ changeErr b a = 0 := by
  unfold changeErr
  by_cases h1 : mergeableOf a = 0 <;> by_cases h2 : mergeableOf b = 0 <;> simp [h1, h2]

theorem change_neg {a b ys zs : List Share} (h : ListOf (fun p => sumP b p - sumP a p) ys) (k : ListOf (fun p => sumP a p - sumP b p) zs) : zs = ys.map fun x => Share.mk x.party (-x.pence) := by
  have h2 := listOf_neg h
  have e : (fun p => -(sumP b p - sumP a p)) = fun p => sumP a p - sumP b p := funext fun p => by omega
  rw [e] at h2
  exact listOf_unique k h2

end Lg
