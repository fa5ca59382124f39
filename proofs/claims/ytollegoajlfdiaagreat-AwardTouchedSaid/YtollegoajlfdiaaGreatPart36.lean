import Derived.Test.YtollegoajlfdiaaGreatPart35
import Derived.Test.YtollegoajlfdiaaGreatPart18
import Derived.Test.YtollegoajlfdiaaGreatPart31
import Derived.Test.YtollegoajlfdiaaGreatPart23
/-
  Plain laws: the reference's hours, turns and touched hours are the program's.
-/
namespace Go.Proofs.YtollegoajlfdiaaGreat
open Go.RowKit Lg Go.Sort Go.Shelf

theorem mem_insI (S : List Int) (f t : Int) : t ∈ insI S f ↔ t ∈ S ∨ t = f := by
  unfold insI
  by_cases h : S[atI S f]? = some f
  · rw [if_pos h]
    exact ⟨.inl, fun e => e.elim id (fun e => e ▸ List.mem_of_getElem? h)⟩
  · rw [if_neg h, List.mem_append, List.mem_cons]
    have e : t ∈ S ↔ t ∈ S.take (atI S f) ∨ t ∈ S.drop (atI S f) := by
      rw [← List.mem_append, List.take_append_drop]
    rw [e]
    constructor
    · rintro (a | a | a)
      · exact .inl (.inl a)
      · exact .inr a
      · exact .inl (.inr a)
    · rintro ((a | a) | a)
      · exact .inl a
      · exact .inr (.inr a)
      · exact .inr (.inl a)

theorem insI_strict {S : List Int} (hS : S.Pairwise (· < ·)) (f : Int) : (insI S f).Pairwise (· < ·) := by
  by_cases h : S[atI S f]? = some f
  · unfold insI; rw [if_pos h]; exact hS
  · unfold insI
    rw [if_neg h]
    unfold atI at h ⊢
    obtain ⟨e1, e2⟩ := takeWhile_take (fun t => decide (t < f)) S
    have hd0 : S[(S.takeWhile (fun t => decide (t < f))).length]? = (S.dropWhile (fun t => decide (t < f)))[0]? := by rw [← e2, List.getElem?_drop]; rfl
    rw [hd0] at h
    rw [e1, e2]
    have hS' := hS
    rw [← List.takeWhile_append_dropWhile (p := fun t => decide (t < f)) (l := S), List.pairwise_append] at hS'
    obtain ⟨p1, p2, p3⟩ := hS'
    rw [List.pairwise_append]
    have hlo : ∀ t ∈ S.takeWhile (fun t => decide (t < f)), t < f := fun t ht => by simpa using mem_takeWhile _ t S ht
    have hhi : ∀ t ∈ S.dropWhile (fun t => decide (t < f)), f < t := by
      intro t ht
      cases hd : S.dropWhile (fun t => decide (t < f)) with
      | nil => rw [hd] at ht; cases ht
      | cons b R =>
        rw [hd] at p2 ht h
        have hb : ¬ b < f := by
          have hne : S.dropWhile (fun t => decide (t < f)) ≠ [] := by rw [hd]; simp
          have h0 := List.head_dropWhile_not (fun t => decide (t < f)) hne
          simp only [hd, List.head_cons] at h0
          simpa using h0
        have hb2 : b ≠ f := fun e => h (by rw [e]; rfl)
        rcases List.mem_cons.1 ht with rfl | ht
        · omega
        · have := List.rel_of_pairwise_cons p2 ht; omega
    refine ⟨p1, List.pairwise_cons.2 ⟨hhi, p2⟩, fun a ha b hb => ?_⟩
    rcases List.mem_cons.1 hb with rfl | hb
    · exact hlo a ha
    · exact p3 a ha b hb

theorem hoursI_facts (l : List Rate) : (hoursI l).Pairwise (· < ·) ∧ ∀ t, t ∈ hoursI l ↔ t = 0 ∨ ∃ x ∈ l, x.from_ = t := by
  unfold hoursI
  have : ∀ (l : List Rate) (S : List Int), S.Pairwise (· < ·) → (l.foldl (fun S x => insI S x.from_) S).Pairwise (· < ·) ∧ ∀ t, t ∈ l.foldl (fun S x => insI S x.from_) S ↔ t ∈ S ∨ ∃ x ∈ l, x.from_ = t := by
    intro l
    induction l with
    | nil => intro S hS; exact ⟨hS, fun t => by simp⟩
    | cons x l ih =>
      intro S hS
      obtain ⟨h1, h2⟩ := ih _ (insI_strict hS x.from_)
      refine ⟨h1, fun t => ?_⟩
      rw [List.foldl_cons, h2, mem_insI]
      constructor
      · rintro ((a | a) | ⟨y, hy, a⟩)
        · exact .inl a
        · exact .inr ⟨x, List.mem_cons_self, a.symm⟩
        · exact .inr ⟨y, List.mem_cons_of_mem _ hy, a⟩
      · rintro (a | ⟨y, hy, a⟩)
        · exact .inl (.inl a)
        · rcases List.mem_cons.1 hy with rfl | hy
          · exact .inl (.inr a.symm)
          · exact .inr ⟨y, hy, a⟩
  obtain ⟨h1, h2⟩ := this l [0] (by simp)
  exact ⟨h1, fun t => by rw [h2]; simp⟩

theorem strict_ext : ∀ (A B : List Int), A.Pairwise (· < ·) → B.Pairwise (· < ·) → (∀ t, t ∈ A ↔ t ∈ B) → A = B := by
  intro A
  induction A with
  | nil =>
    intro B _ _ h
    cases B with
    | nil => rfl
    | cons b B => have := (h b).2 List.mem_cons_self; cases this
  | cons a A ih =>
    intro B hA hB h
    cases B with
    | nil => have := (h a).1 List.mem_cons_self; cases this
    | cons b B =>
      have ha := fun t (ht : t ∈ A) => List.rel_of_pairwise_cons hA ht
      have hb := fun t (ht : t ∈ B) => List.rel_of_pairwise_cons hB ht
      have e : a = b := by
        rcases List.mem_cons.1 ((h a).1 List.mem_cons_self) with e | e
        · exact e
        · rcases List.mem_cons.1 ((h b).2 List.mem_cons_self) with e2 | e2
          · exact e2.symm
          · have := ha b e2; have := hb a e; omega
      subst e
      rw [ih B (List.Pairwise.of_cons hA) (List.Pairwise.of_cons hB) (fun t => ?_)]
      constructor
      · intro ht
        rcases List.mem_cons.1 ((h t).1 (List.mem_cons_of_mem _ ht)) with e | e
        · have := ha t ht; omega
        · exact e
      · intro ht
        rcases List.mem_cons.1 ((h t).2 (List.mem_cons_of_mem _ ht)) with e | e
        · have := hb t ht; omega
        · exact e

theorem fidI_fid {l : List Rate} (hv : (checkRates l).2 = 0) (goods : ByteArray) (t known : Int) : fidI l goods t known = fid l goods known t := by
  unfold fid fidI
  rw [inForce_ref (fun x hx => rateOk_id (checkRates_ok hv x hx))]
  by_cases h : forceI l goods t known < 0
  · rw [if_pos h, if_pos h]; rfl
  · rw [if_neg h, if_neg h]

theorem turnFold_sub (l : List Rate) (goods : ByteArray) (known : Int) : ∀ (S : List Int) (st : Int × List Int), ∃ R, (S.foldl (turnStep l goods known) st).2 = st.2 ++ R ∧ R.Sublist S := by
  intro S
  induction S with
  | nil => intro st; exact ⟨[], by simp, List.Sublist.refl _⟩
  | cons s S ih =>
    intro st
    obtain ⟨R, h1, h2⟩ := ih (turnStep l goods known st s)
    rw [List.foldl_cons, h1]
    unfold turnStep
    dsimp only
    by_cases e : (inForce l goods s known).1.id = st.1
    · rw [if_pos e]; exact ⟨R, rfl, h2.cons _⟩
    · rw [if_neg e]; exact ⟨s :: R, by simp, h2.cons_cons _⟩

theorem turns_mem {l : List Rate} (hv : (checkRates l).2 = 0) (goods : ByteArray) (known h : Int) : h ∈ turnsOf l goods known ↔ fid l goods known h ≠ fid l goods known (h - 1) := by
  rw [turns_law hv]
  rcases rateOf_ok hv goods h known with ⟨e1, e2, _⟩ | ⟨x, hx, e1, e2, e3, _⟩ <;> rcases rateOf_ok hv goods (h - 1) known with ⟨f1, f2, _⟩ | ⟨y, hy, f1, f2, f3, _⟩
  · rw [e1, e2, f1, f2]; simp
  · rw [e1, e2, f1, f2]
    have : (0 : Int) ≠ y.id := by omega
    simp [this]
  · rw [e1, e2, f1, f2]
    have : x.id ≠ (0 : Int) := by omega
    simp [this]
  · rw [e1, e2, f1, f2]; simp

theorem turnsI_eq (l : List Rate) (goods : ByteArray) (known : Int) : turnsI l goods known = turnsOf l goods known := by
  unfold turnsI
  by_cases hv : (checkRates l).2 = 0
  · rw [if_pos hv]
    have hsub : (turnsOf l goods known).Sublist (startsOf l) := by
      unfold turnsOf
      rw [if_pos hv]
      obtain ⟨R, h1, h2⟩ := turnFold_sub l goods known (startsOf l) (0, [])
      rw [h1]; exact h2
    obtain ⟨hs, hmem⟩ := hoursI_facts l
    refine strict_ext _ _ (hs.filter _) ((starts_strict l).sublist hsub) (fun t => ?_)
    rw [List.mem_filter, turns_mem hv, fidI_fid hv, fidI_fid hv]
    constructor
    · rintro ⟨_, h⟩; simpa using h
    · intro h
      refine ⟨?_, by simpa using h⟩
      obtain ⟨x, hx, _, e⟩ := (mem_starts_iff l t).1 (hsub.subset ((turns_mem hv goods known t).2 h))
      exact (hmem t).2 (.inr ⟨x, hx, e⟩)
  · rw [if_neg hv]; unfold turnsOf; rw [if_neg hv]

end Go.Proofs.YtollegoajlfdiaaGreat

/-
  Plain law: the reference's touched hours are the program's.
-/
namespace Go.Proofs.YtollegoajlfdiaaGreat
open Go.RowKit Lg Go.Sort Go.Shelf

theorem from_bound {x : Rate} (h : rateOk x = true) : 0 ≤ x.from_ ∧ x.from_ ≤ 1000000 := by
  by_cases h0 : x.of_ = 0
  · exact rateOk_from h h0
  · unfold rateOk at h
    rw [if_pos (by simpa using h0)] at h
    simp only [Bool.and_eq_true, decide_eq_true_eq] at h
    rw [h.2.2]
    exact ⟨Int.le_refl 0, by show (0 : Int) ≤ 1000000; omega⟩

theorem hoursI_bound {l : List Rate} (hv : (checkRates l).2 = 0) : ∀ t ∈ hoursI l, 0 ≤ t ∧ t ≤ 1000000 := fun t ht => by
  rcases ((hoursI_facts l).2 t).1 ht with rfl | ⟨x, hx, rfl⟩
  · omega
  · exact from_bound (checkRates_ok hv x hx)

theorem piece (g : Nat → Int) (t : Int) : ∀ n i : Nat, g i ≤ t → t < g (i + n) → ∃ j, i ≤ j ∧ j < i + n ∧ g j ≤ t ∧ t < g (j + 1) := by
  intro n
  induction n with
  | zero => intro i h1 h2; rw [Nat.add_zero] at h2; omega
  | succ n ih =>
    intro i h1 h2
    by_cases h : t < g (i + 1)
    · exact ⟨i, Nat.le_refl _, by omega, h1, h⟩
    · obtain ⟨j, a, b, c, d⟩ := ih (i + 1) (by omega) (by rw [show i + 1 + n = i + (n + 1) by omega]; exact h2)
      exact ⟨j, by omega, by omega, c, d⟩

theorem tI_spec (l m : List Rate) (goods : ByteArray) (known : Int) (A : List Int) (k : Nat) :
    ((tI l m goods known A k).2.2 = false → tI l m goods known A k = (0, 0, false) ∧ ∀ i, i < k → fidI l goods (A.getD i 0) known = fidI m goods (A.getD i 0) known) ∧
    ((tI l m goods known A k).2.2 = true → ∃ i0 i1, i0 ≤ i1 ∧ i1 < k ∧ tI l m goods known A k = (A.getD i0 0, A.getD (i1 + 1) 0 - 1, true) ∧
      fidI l goods (A.getD i0 0) known ≠ fidI m goods (A.getD i0 0) known ∧ fidI l goods (A.getD i1 0) known ≠ fidI m goods (A.getD i1 0) known ∧
      (∀ i, i < i0 → fidI l goods (A.getD i 0) known = fidI m goods (A.getD i 0) known) ∧ ∀ i, i1 < i → i < k → fidI l goods (A.getD i 0) known = fidI m goods (A.getD i 0) known) := by
  induction k with
  | zero => exact ⟨fun _ => ⟨rfl, fun i h => absurd h (Nat.not_lt_zero _)⟩, fun h => by cases h⟩
  | succ k ih =>
    obtain ⟨ih1, ih2⟩ := ih
    by_cases hD : fidI l goods (A.getD k 0) known = fidI m goods (A.getD k 0) known
    · rw [tI, if_pos hD]
      refine ⟨fun h => ?_, fun h => ?_⟩
      · obtain ⟨a, b⟩ := ih1 h
        refine ⟨a, fun i hi => ?_⟩
        by_cases e : i = k
        · rw [e]; exact hD
        · exact b i (by omega)
      · obtain ⟨i0, i1, a, b, c, d, e, f, g⟩ := ih2 h
        refine ⟨i0, i1, a, by omega, c, d, e, f, fun i hi hk => ?_⟩
        by_cases e : i = k
        · rw [e]; exact hD
        · exact g i hi (by omega)
    · rw [tI, if_neg hD]
      refine ⟨fun h => (by cases h), fun _ => ?_⟩
      cases ho : (tI l m goods known A k).2.2 with
      | false =>
        obtain ⟨a, b⟩ := ih1 ho
        exact ⟨k, k, Nat.le_refl _, by omega, by rw [if_neg (by simp)], hD, hD, b, fun i h1 h2 => by omega⟩
      | true =>
        obtain ⟨i0, i1, a, b, c, d, e, f, g⟩ := ih2 ho
        exact ⟨i0, k, by omega, by omega, by rw [if_pos rfl, c], d, hD, f, fun i h1 h2 => by omega⟩

theorem touchedI_eq (l : List Rate) (x : Rate) (goods : ByteArray) : touchedI l x goods = touchedOf l x goods := by
  unfold touchedI
  by_cases h : (appendRate l x).2 = 0
  · rw [if_pos h]
    obtain ⟨f, u, ok, ht, hf1, hf2, hu1, hu2, hok, hdiff, hall⟩ := touched_law goods h
    rw [ht]
    obtain ⟨h1, h2, h3⟩ := appendRate_ok h
    have hm := valid_snoc h2 h3
    have hsub : ∀ y ∈ l, y ∈ l ++ [x] := fun y hy => List.mem_append_left _ hy
    have hsame := fun t => same_iff h2 hm hsub goods t t x.known
    obtain ⟨hs, hmem⟩ := hoursI_facts (l ++ [x])
    have hbd := hoursI_bound hm
    have hS1 : ∀ y ∈ l ++ [x], y.of_ = 0 → y.from_ ∈ hoursI (l ++ [x]) := fun y hy _ => (hmem _).2 (.inr ⟨y, hy, rfl⟩)
    have hS2 : ∀ y ∈ l, y.of_ = 0 → y.from_ ∈ hoursI (l ++ [x]) := fun y hy h0 => hS1 y (hsub y hy) h0
    have hz : (0 : Int) ∈ hoursI (l ++ [x]) := (hmem 0).2 (.inl rfl)
    have hsp := tI_spec l (l ++ [x]) goods x.known (hoursI (l ++ [x]) ++ [1000001]) (hoursI (l ++ [x])).length
    generalize hoursI (l ++ [x]) = S at *
    obtain ⟨H, hH⟩ : ∃ H, H = S.length := ⟨_, rfl⟩
    obtain ⟨g, hg⟩ : ∃ g : Nat → Int, g = fun i => (S ++ [1000001]).getD i 0 := ⟨_, rfl⟩
    have hgi : ∀ i, (S ++ [1000001]).getD i 0 = g i := fun i => by rw [hg]
    have hgS : ∀ i, i < H → g i ∈ S := fun i hi => by
      rw [hg]
      show (S ++ [1000001]).getD i 0 ∈ S
      rw [List.getD_eq_getElem?_getD, List.getElem?_append_left (by omega), List.getElem?_eq_getElem (by omega)]
      exact List.getElem_mem _
    have hgH : g H = 1000001 := by
      rw [hg]
      show (S ++ [1000001]).getD H 0 = 1000001
      rw [List.getD_eq_getElem?_getD, List.getElem?_append_right (by omega), hH, Nat.sub_self]; rfl
    have hSg : ∀ v ∈ S, ∃ i, i < H ∧ g i = v := fun v hv => by
      obtain ⟨i, hi, e⟩ := List.mem_iff_getElem.1 hv
      refine ⟨i, by omega, ?_⟩
      rw [hg]
      show (S ++ [1000001]).getD i 0 = v
      rw [List.getD_eq_getElem?_getD, List.getElem?_append_left hi, List.getElem?_eq_getElem hi, e]; rfl
    have hmono : ∀ i j, i < j → j ≤ H → g i < g j := by
      intro i j hij hj
      by_cases e : j = H
      · rw [e, hgH]
        have := hbd _ (hgS i (by omega)); omega
      · have hp := List.pairwise_iff_getElem.1 hs i j (by omega) (by omega) hij
        rw [hg]
        show (S ++ [1000001]).getD i 0 < (S ++ [1000001]).getD j 0
        rw [List.getD_eq_getElem?_getD, List.getElem?_append_left (by omega), List.getElem?_eq_getElem (by omega : i < S.length), List.getD_eq_getElem?_getD, List.getElem?_append_left (by omega), List.getElem?_eq_getElem (by omega : j < S.length)]
        exact hp
    have hmono' : ∀ i j, i ≤ j → j ≤ H → g i ≤ g j := fun i j hij hj => by
      rcases Nat.lt_or_ge i j with e | e
      · have := hmono i j e hj; omega
      · rw [show i = j by omega]; exact Int.le_refl _
    -- within a piece nothing changes
    have hat : ∀ i t, i < H → g i ≤ t → t < g (i + 1) → (rateOf l goods t x.known ≠ rateOf (l ++ [x]) goods t x.known ↔ fidI l goods (g i) x.known ≠ fidI (l ++ [x]) goods (g i) x.known) := by
      intro i t hi a b
      have hb : ∀ v ∈ S, v ≤ t → v ≤ g i := fun v hv e => by
        obtain ⟨j, hj, rfl⟩ := hSg v hv
        rcases Nat.lt_or_ge i j with q | q
        · have := hmono' (i + 1) j q (by omega); omega
        · exact hmono' j i q (by omega)
      rw [Ne, hsame, fidI_fid h2, fidI_fid hm]
      unfold fid
      rw [force_at S l hS2 goods x.known t (g i) a hb, force_at S (l ++ [x]) hS1 goods x.known t (g i) a hb]
    have hpc : ∀ t, 0 ≤ t → t ≤ 1000000 → ∃ i, i < H ∧ g i ≤ t ∧ t < g (i + 1) := fun t a b => by
      obtain ⟨i, hi, e⟩ := hSg 0 hz
      obtain ⟨j, _, c, d, e⟩ := piece g t (H - i) i (by omega) (by rw [show i + (H - i) = H by omega, hgH]; omega)
      exact ⟨j, by omega, d, e⟩
    simp only [hgi] at hsp
    rw [← hH] at hsp ⊢
    obtain ⟨hsp1, hsp2⟩ := hsp
    cases ho : (tI l (l ++ [x]) goods x.known (S ++ [1000001]) H).2.2 with
    | false =>
      obtain ⟨a, b⟩ := hsp1 ho
      rw [a]
      have hnone : ∀ t, 0 ≤ t → t ≤ 1000000 → rateOf l goods t x.known = rateOf (l ++ [x]) goods t x.known := fun t h1 h2 => by
        obtain ⟨i, hi, c, d⟩ := hpc t h1 h2
        by_cases e : rateOf l goods t x.known = rateOf (l ++ [x]) goods t x.known
        · exact e
        · exact absurd (b i hi) ((hat i t hi c d).1 e)
      cases ok with
      | false => obtain ⟨rfl, rfl⟩ := hok rfl; rfl
      | true => exact absurd (hnone f hf1 hf2) (hdiff rfl).1
    | true =>
      obtain ⟨i0, i1, a, b, c, d, e, f0, f1⟩ := hsp2 ho
      rw [c]
      have hb0 := hbd _ (hgS i0 (by omega))
      have hb1 := hbd _ (hgS i1 (by omega))
      have hm1 := hmono i1 (i1 + 1) (by omega) (by omega)
      have hm2 := hmono' (i1 + 1) H (by omega) (Nat.le_refl _)
      rw [hgH] at hm2
      have t0 := (hat i0 (g i0) (by omega) (Int.le_refl _) (hmono i0 (i0 + 1) (by omega) (by omega))).2 d
      have t1 := (hat i1 (g (i1 + 1) - 1) (by omega) (by omega) (by omega)).2 e
      have q0 := (hall (g i0) hb0.1 hb0.2).2 t0
      have q1 := (hall (g (i1 + 1) - 1) (by omega) (by omega)).2 t1
      cases ok with
      | false => exact absurd ((hall (g i0) hb0.1 hb0.2).1 rfl) t0
      | true =>
        obtain ⟨d1, d2⟩ := hdiff rfl
        have ef : f = g i0 := by
          obtain ⟨i, hi, c1, c2⟩ := hpc f hf1 hf2
          have hD := (hat i f hi c1 c2).1 d1
          have : ¬ i < i0 := fun q => hD (f0 i q)
          have := hmono' i0 i (by omega) (by omega)
          omega
        have eu : u = g (i1 + 1) - 1 := by
          obtain ⟨i, hi, c1, c2⟩ := hpc u hu1 hu2
          have hD := (hat i u hi c1 c2).1 d2
          have : ¬ i1 < i := fun q => hD (f1 i q hi)
          have := hmono' (i + 1) (i1 + 1) (by omega) (by omega)
          omega
        rw [ef, eu]
  · rw [if_neg h]
    unfold touchedOf
    rw [if_neg h]

end Go.Proofs.YtollegoajlfdiaaGreat

/-
  Walk: between which hours a record more changes the rate in force, wherever the list lies.
-/
namespace Go.Proofs.YtollegoajlfdiaaGreat
open Go.RowKit Lg Go.Sort Go.Shelf

set_option maxRecDepth 100000 in
set_option maxHeartbeats 1600000 in
theorem touched0_any (a : Option Addr) (n cap : Nat) (xs : List Rate) (x : Rate) (goods : ByteArray) (w : World) (hL : Lst w 9 cR a n cap xs) :
    Calls Tryz.prog 19 #[.slice a n cap, aR x, .string goods] w (Gives w (.tuple #[.int .i64 (touchedOf xs x goods).1.1, .int .i64 (touchedOf xs x goods).1.2.1, .bool (touchedOf xs x goods).1.2.2, .int .i64 (touchedOf xs x goods).2])) := by
  obtain ⟨r, hr⟩ : ∃ r, r = touchedOf xs x goods := ⟨_, rfl⟩
  rw [← hr]
  obtain ⟨m, hmm⟩ : ∃ m, m = appendRate xs x := ⟨_, rfl⟩
  have hB1 : RowKit.Below w.heap.size w (w.alloc (.cells #[.int .i64 x.id, .int .i64 x.known, .int .i64 x.from_, .string x.goods, .int .i64 x.finder.num, .int .i64 x.finder.den, .int .i64 x.cart, .int .i64 x.store, .int .i64 x.of_] 26)) := (Below.refl _ w).alloc (Nat.le_refl _) _
  have har := appendRate0_any a n cap xs x _ (hL.below hB1)
  rw [← hmm] at har
  have hbd : m.2 = 0 → (∀ t ∈ startsOf m.1, 0 ≤ t ∧ t ≤ 1000000) ∧ m.1.length ≤ 101 := fun h => by
    subst hmm
    refine ⟨starts_bound h, ?_⟩
    obtain ⟨h1, h2, h3⟩ := appendRate_ok h
    rw [h1, List.length_append]
    have := checkRates_len xs h2
    simp; omega
  have Hr : Hid (r = if m.2 = 0 then (touchGo xs m.1 goods x.known (startsOf m.1) (0, 0, false), 0) else ((0, 0, false), m.2)) := Lib.hid (by rw [hr, hmm]; rfl)
  clear hr hmm
  obtain ⟨m1, m2⟩ := m
  go_enter Tryz.func19, Tryz.ntmps19
  go_wp2_with (fail)
  refine har.mono ?_
  clear har
  rintro e w1 ⟨v1, rfl, ho1, hB2⟩
  have k1 : Blk w1 w.heap.size #[.int .i64 x.id, .int .i64 x.known, .int .i64 x.from_, .string x.goods, .int .i64 x.finder.num, .int .i64 x.finder.den, .int .i64 x.cart, .int .i64 x.store, .int .i64 x.of_] 26 := (Blk.new w _ _).below' hB2
  have hb1 : RowKit.Below w.heap.size w w1 := hB1.trans (hB2.mono hB1.size)
  by_cases hv0 : m2 = 0
  · obtain ⟨hbd1, hbd2⟩ := hbd hv0
    subst hv0
    have hrr := Hr.out
    simp only [if_true] at hrr
    have Hr2 := Lib.hid hrr; clear hrr Hr hbd
    obtain ⟨a1, cap1, rfl, hpl1, hL1⟩ := Lst.of_owns (k := 9) (enc := cR) (fun _ => rfl) (by decide) ho1 rfl
    clear ho1
    have hm1 : cap1 ≤ 9223372036854775807 := by have := hL1.max; unfold maxLen at this; omega
    have hle1 := hL1.le
    go_wp2_with (fail)
    refine (starts_any a1 m1.length cap1 m1 w1 (by omega) hL1).mono ?_
    rintro e w2 ⟨v, rfl, ho, hB3⟩
    have hsl := startsOf_len m1
    obtain ⟨hs, hhs⟩ : ∃ hs, hs = startsOf m1 := ⟨_, rfl⟩
    rw [← hhs] at ho hsl hbd1
    rw [← hhs] at Hr2
    clear hhs
    rw [← flat_int] at ho
    obtain ⟨a2, cap2, rfl, hpl, hL2⟩ := Lst.of_owns (k := 1) (enc := cI) (fun _ => rfl) Nat.zero_lt_one ho rfl
    have hm2 : cap2 ≤ 9223372036854775807 := by have := hL2.max; unfold maxLen at this; omega
    have hle2 := hL2.le
    have hb2 := hb1.trans (hB3.mono hb1.size)
    have k2 := k1.below' hB3
    have hlt2 := k2.lt
    have hLm := hL1.below hB3
    clear ho
    go_wp2
    go_loopw [31, 6, 7, 8] (fun i fr un okv wr => ∃ k : Nat, ∃ s : Int × Int × Bool, k ≤ hs.length ∧ i = .int .i64 k ∧ fr = .int .i64 s.1 ∧ un = .int .i64 s.2.1 ∧ okv = .bool s.2.2 ∧
      r.1 = touchGo xs m1 goods x.known (hs.drop k) s ∧ RowKit.Below w2.heap.size w2 wr) (fun i _ _ _ _ => hs.length - (intOf i).toNat)
    case atStart => exact ⟨0, (0, 0, false), Nat.zero_le _, rfl, rfl, rfl, rfl, by rw [Hr2.out]; rfl, Below.refl _ _⟩
    case round =>
      obtain ⟨k, ⟨s1, s2, s3⟩, hk, rfl, rfl, rfl, rfl, hgo, hB⟩ := hrel
      by_cases hlt : k < hs.length
      · obtain ⟨h, hx⟩ : ∃ h, hs[k]? = some h := ⟨hs[k], by simp⟩
        obtain ⟨b, off, rfl, hb, hr⟩ := hL2.at_ k h hx
        have hr' := rangeAt_below hB hb hr 0 _ rfl
        simp only [Nat.mul_one, Nat.add_zero] at hr'
        have hdrop : hs.drop k = h :: hs.drop (k + 1) := by
          obtain ⟨h1, h2⟩ := List.getElem?_eq_some_iff.1 hx
          rw [← h2, List.drop_eq_getElem_cons h1]
        rw [hdrop] at hgo
        obtain ⟨f, hf⟩ : ∃ f, f = inForce xs goods h x.known := ⟨_, rfl⟩
        obtain ⟨g, hg⟩ : ∃ g, g = inForce m1 goods h x.known := ⟨_, rfl⟩
        have hgo2 : r.1 = if f.1.id = g.1.id then touchGo xs m1 goods x.known (hs.drop (k + 1)) (s1, s2, s3) else touchGo xs m1 goods x.known (hs.drop (k + 1)) (if s3 = true then s1 else h, (match hs.drop (k + 1) with | [] => 1000000 | h2 :: _ => h2 - 1), true) := by
          rw [hgo, hf, hg]; rfl
        have hfr := inForce_any a n cap xs goods h x.known wr (hL.below (hb2.trans (hB.mono hb2.size)))
        have hgr := fun W hW => inForce_any a1 m1.length cap1 m1 goods h x.known W hW
        rw [← hf] at hfr
        rw [← hg] at hgr
        have Hg := Lib.hid hgo2; clear hgo hgo2 hf hg hdrop
        have Hx := Lib.hid hx; clear hx
        obtain ⟨f1, f2⟩ := f
        obtain ⟨g1, g2⟩ := g
        have kr := k2.below' hB
        have cr := kr.cell
        go_wp2_with (fail)
        refine hfr.mono ?_
        clear hfr cr
        rintro e w3 ⟨rfl, hB4⟩
        have hb3 : RowKit.Below w2.heap.size w2 w3 := hB.trans (hB4.mono hB.size)
        have k3 := k2.below' hb3
        have c3 : ∀ (cs : Array Value) (j : Nat), (w3.alloc (.cells cs 26)).cell? ⟨w.heap.size, j, none⟩ = #[.int .i64 x.id, .int .i64 x.known, .int .i64 x.from_, .string x.goods, .int .i64 x.finder.num, .int .i64 x.finder.den, .int .i64 x.cart, .int .i64 x.store, .int .i64 x.of_][j]? := fun cs j => (k3.alloc _).cell j
        have hb3' : RowKit.Below w2.heap.size w2 (w3.alloc (.cells (cR f1).toArray 26)) := hb3.alloc hb3.size _
        have hgr1 := hgr (w3.alloc (.cells (cR f1).toArray 26)) (hLm.below hb3')
        go_wp2_with (fail)
        refine hgr1.mono ?_
        clear hgr hgr1
        rintro e w4 ⟨rfl, hB5⟩
        have hb4 : RowKit.Below w2.heap.size w2 w4 := hb3'.trans (hB5.mono hb3'.size)
        have kf : Blk w4 w3.heap.size (cR f1).toArray 26 := (Blk.new w3 _ _).below' hB5
        have hltf := kf.lt
        have cf := kf.cell
        have hb4' : ∀ o, RowKit.Below w2.heap.size w2 (w4.alloc o) := fun o => hb4.alloc hb4.size o
        by_cases h0 : f1.id = g1.id
        · have g0 : (f1.id == g1.id) = true := by simpa using h0
          have ht := Hg.out
          rw [if_pos h0] at ht
          have Hg2 := Lib.hid ht; clear ht h0
          go_wp2_with (fail)
          go_roundw
          case rel => exact ⟨k + 1, (s1, s2, s3), by omega, by go_num, rfl, rfl, rfl, Hg2.out, hb4' _⟩
          case measure => simp [intOf]; omega
        · have g0 : (f1.id == g1.id) = false := by simpa using h0
          have ht := Hg.out
          rw [if_neg h0] at ht
          clear h0
          by_cases hk1 : k + 1 < hs.length
          · obtain ⟨h2, hx2⟩ : ∃ h2, hs[k + 1]? = some h2 := ⟨hs[k + 1], by simp⟩
            obtain ⟨b', off', ha', hb', hr2⟩ := hL2.at_ (k + 1) h2 hx2
            cases ha'
            have hr2' := rangeAt_below hb4 hb' hr2 0 _ rfl
            simp only [Nat.mul_one, Nat.add_zero] at hr2'
            have hr3 := cell_allocs hr2'
            have hbh := hbd1 h2 (List.mem_of_getElem? hx2)
            have hd2 : hs.drop (k + 1) = h2 :: hs.drop (k + 1 + 1) := by
              obtain ⟨h3, h4⟩ := List.getElem?_eq_some_iff.1 hx2
              rw [← h4, List.drop_eq_getElem_cons h3]
            have ht2 : r.1 = touchGo xs m1 goods x.known (hs.drop (k + 1)) (if s3 = true then s1 else h, h2 - 1, true) := by rw [ht, hd2]
            have Hg2 := Lib.hid ht2
            clear ht ht2 hd2 hr2' hr2 hx2 hbd1
            cases s3 with
            | true =>
              go_wp2_with (fail)
              go_roundw
              case rel => exact ⟨k + 1, (s1, h2 - 1, true), by omega, by go_num, rfl, rfl, rfl, Hg2.out, hb4' _⟩
              case measure => simp [intOf]; omega
            | false =>
              go_wp2_with (fail)
              go_roundw
              case rel => exact ⟨k + 1, (h, h2 - 1, true), by omega, by go_num, rfl, rfl, rfl, Hg2.out, hb4' _⟩
              case measure => simp [intOf]; omega
          · have hd2 : hs.drop (k + 1) = [] := List.drop_of_length_le (by omega)
            have ht2 : r.1 = touchGo xs m1 goods x.known (hs.drop (k + 1)) (if s3 = true then s1 else h, 1000000, true) := by rw [ht, hd2]
            have Hg2 := Lib.hid ht2
            clear ht ht2 hd2 hbd1
            cases s3 with
            | true =>
              go_wp2_with (fail)
              go_roundw
              case rel => exact ⟨k + 1, (s1, 1000000, true), by omega, by go_num, rfl, rfl, rfl, Hg2.out, hb4' _⟩
              case measure => simp [intOf]; omega
            | false =>
              go_wp2_with (fail)
              go_roundw
              case rel => exact ⟨k + 1, (h, 1000000, true), by omega, by go_num, rfl, rfl, rfl, Hg2.out, hb4' _⟩
              case measure => simp [intOf]; omega
      · obtain rfl : k = hs.length := by omega
        rw [List.drop_of_length_le (Nat.le_refl _)] at hgo
        have Hgo := Lib.hid hgo; clear hgo
        go_wp2
        refine bodyPost_ret (results_tmp4 rfl _ _ _) rfl ⟨?_, hb2.trans (hB.mono hb2.size)⟩
        have e2 : r.2 = 0 := by rw [Hr2.out]
        rw [Hgo.out, e2]; rfl
  · have g0 : (m2 != 0) = true := by simpa using hv0
    have Hv0 := Lib.hid hv0; clear hv0
    go_wp2_with (fail)
    refine bodyPost_ret (results_tmp4 rfl _ _ _) rfl ⟨?_, hb1⟩
    rw [Hr.out, if_neg Hv0.out]; rfl

end Go.Proofs.YtollegoajlfdiaaGreat

/-
  Walk: the law of rates in force.
-/
namespace Go.Proofs.YtollegoajlfdiaaGreat
open Go.RowKit Lg Go.Sort Go.Shelf Go.Maps

theorem few_len {xs : List Rate} (h : fewOf xs = true) : xs.length ≤ 103 := by
  unfold fewOf at h
  simp only [Bool.and_eq_true, Bool.or_eq_true, decide_eq_true_eq] at h
  omega

set_option maxRecDepth 100000 in
set_option maxHeartbeats 25600000 in
theorem lawForce_any (a : Option Addr) (n cap : Nat) (xs : List Rate) (goods : ByteArray) (hour known : Int) (x : Rate) (w : World) (hL : Lst w 9 cR a n cap xs) :
    Calls Tryz.prog 3 #[.slice a n cap, .string goods, .int .i64 hour, .int .i64 known, aR x] w (Gives w (.bool true)) := by
  have hp := paid_any
  have hB0 : RowKit.Below w.heap.size w (w.alloc (.cells #[.int .i64 x.id, .int .i64 x.known, .int .i64 x.from_, .string x.goods, .int .i64 x.finder.num, .int .i64 x.finder.den, .int .i64 x.cart, .int .i64 x.store, .int .i64 x.of_] 26)) := (Below.refl _ w).alloc (Nat.le_refl _) _
  have k0 := Blk.new w 26 #[.int .i64 x.id, .int .i64 x.known, .int .i64 x.from_, .string x.goods, .int .i64 x.finder.num, .int .i64 x.finder.den, .int .i64 x.cart, .int .i64 x.store, .int .i64 x.of_]
  have e0 := k0.cell
  have hf := few_any a n cap xs _ (hL.below hB0)
  cases h3 : fewOf xs
  · rw [h3] at hf
    clear hL h3
    go_enter Tryz.func3, Tryz.ntmps3
    go_wp2_with (first | (go_at_call 15; (with_reducible refine hf.mono ?_); rintro e w5 ⟨rfl, rfl⟩) | (go_at_call 16; refine (hp _).mono ?_; rintro e w5 ⟨rfl, hB5⟩))
    go_ret
    exact ⟨rfl, hB0.trans (hB5.mono hB0.size)⟩
  have hn := few_len h3
  rw [hL.len] at hn
  rw [h3] at hf
  clear h3
  by_cases h4 : (100 : Int) < (goods.size : Int)
  · clear hL
    go_enter Tryz.func3, Tryz.ntmps3
    go_wp2_with (first | (go_at_call 15; (with_reducible refine hf.mono ?_); rintro e w5 ⟨rfl, rfl⟩) | (go_at_call 16; refine (hp _).mono ?_; rintro e w5 ⟨rfl, hB5⟩))
    go_ret
    exact ⟨rfl, hB0.trans (hB5.mono hB0.size)⟩
  by_cases h5 : (100 : Int) < (x.goods.size : Int)
  · clear hL
    go_enter Tryz.func3, Tryz.ntmps3
    go_wp2_with (first | (go_at_call 15; (with_reducible refine hf.mono ?_); rintro e w5 ⟨rfl, rfl⟩) | (go_at_call 16; refine (hp _).mono ?_; rintro e w5 ⟨rfl, hB5⟩))
    go_ret
    exact ⟨rfl, hB0.trans (hB5.mono hB0.size)⟩
  have hR1 := fun W (hB : RowKit.Below w.heap.size w W) => rateOf_any a n cap xs goods hour known W (hL.below hB)
  have hR2 := fun W (hB : RowKit.Below w.heap.size w W) => rateOfR_any a n cap xs goods hour known W (by omega) (hL.below hB)
  have hT1 := fun W (hB : RowKit.Below w.heap.size w W) => touched0_any a n cap xs x goods W (hL.below hB)
  have hT2 := fun W (hB : RowKit.Below w.heap.size w W) => touchedR_any a n cap xs x goods W (by omega) (hL.below hB) (fun h => hoursI_bound (valid_snoc (appendRate_ok h).2.1 (appendRate_ok h).2.2))
  have hU1 := fun W (hB : RowKit.Below w.heap.size w W) => turns_any a n cap xs goods known W (hL.below hB)
  have hU2 := fun W (hB : RowKit.Below w.heap.size w W) => turnsR_any a n cap xs goods known W (by omega) (hL.below hB) hoursI_bound
  rw [touchedI_eq] at hT2
  rw [turnsI_eq] at hU2
  generalize touchedOf xs x goods = tv at *
  generalize turnsOf xs goods known = ts at *
  generalize rateOf xs goods hour known = rv at *
  obtain ⟨ra, ga⟩ := rv
  obtain ⟨⟨tf, tu, tk⟩, te⟩ := tv
  dsimp only at hR1 hR2 hT1 hT2
  have HR1 := Lib.hid hR1
  have HR2 := Lib.hid hR2
  have HT1 := Lib.hid hT1
  have HT2 := Lib.hid hT2
  have HU1 := Lib.hid hU1
  have HU2 := Lib.hid hU2
  clear hR1 hR2 hT1 hT2 hU1 hU2 hL
  go_enter Tryz.func3, Tryz.ntmps3
  go_wp2_with (first | (go_at_call 15; (with_reducible refine hf.mono ?_); rintro e w5 ⟨rfl, rfl⟩) | fail)
  clear hf
  refine (HR1.out _ hB0).mono ?_
  rintro e w1 ⟨rfl, hB1⟩
  have kA := Blk.new w1 26 (cR ra).toArray
  have hz1 : RowKit.Below w1.heap.size w1 (w1.alloc (.cells (cR ra).toArray 26)) := (Below.refl _ w1).alloc (Nat.le_refl _) _
  have k0 := (k0.below' hB1).below' hz1
  have hB2 := hB0.trans (hB1.mono hB0.size)
  have hB2 := hB2.trans (hz1.mono hB2.size)
  clear e0 hB1 hz1
  go_wp2_with (fail)
  refine (HR2.out _ hB2).mono ?_
  rintro e w2 ⟨rfl, hB3⟩
  have kB := Blk.new w2 26 (cR ra).toArray
  have hz2 : RowKit.Below w2.heap.size w2 (w2.alloc (.cells (cR ra).toArray 26)) := (Below.refl _ w2).alloc (Nat.le_refl _) _
  have kA := (kA.below' hB3).below' hz2
  have k0 := (k0.below' hB3).below' hz2
  have hB4 := hB2.trans (hB3.mono hB2.size)
  have hB4 := hB4.trans (hz2.mono hB4.size)
  clear hB3 hz2
  have e0 := k0.cell
  go_wp2_with (fail)
  refine (HT1.out _ hB4).mono ?_
  rintro e w3 ⟨rfl, hB5⟩
  have kA := kA.below' hB5
  have kB := kB.below' hB5
  have k0 := k0.below' hB5
  have hB6 := hB4.trans (hB5.mono hB4.size)
  clear hB5 e0
  have e0 := k0.cell
  go_wp2_with (fail)
  refine (HT2.out _ hB6).mono ?_
  rintro e w4 ⟨rfl, hB7⟩
  have kA := kA.below' hB7
  have kB := kB.below' hB7
  have hB8 := hB6.trans (hB7.mono hB6.size)
  obtain ⟨bA, hbA⟩ : ∃ bA, bA = w1.heap.size := ⟨_, rfl⟩
  obtain ⟨bB, hbB⟩ : ∃ bB, bB = w2.heap.size := ⟨_, rfl⟩
  rw [← hbA] at kA ⊢
  rw [← hbB] at kB ⊢
  clear hB7 e0 k0 hB2 hB4 hB6 hbA hbB
  have hU1 : ∀ W, RowKit.Below w4.heap.size w4 W → Calls Tryz.prog 22 #[.slice a n cap, .string goods, .int .i64 known] W fun e w' => ∃ av c, e = .returned (.slice av ts.length c) ∧ Lst w' 1 cI av ts.length c ts ∧ RowKit.Below W.heap.size W w' ∧ RowKit.Below w4.heap.size w4 w' := fun W h => (HU1.out W (hB8.trans (h.mono hB8.size))).mono fun e w' q => by
    obtain ⟨v, rfl, ho, hq⟩ := q
    rw [← flat_int] at ho
    obtain ⟨av, cv, rfl, _, hl⟩ := Lst.of_owns (k := 1) (enc := cI) (fun _ => rfl) (by omega) ho rfl
    exact ⟨av, cv, rfl, hl, hq, h.trans (hq.mono h.size)⟩
  have hU2 : ∀ W, RowKit.Below w4.heap.size w4 W → Calls Tryz.prog 23 #[.slice a n cap, .string goods, .int .i64 known] W fun e w' => ∃ av c, e = .returned (.slice av ts.length c) ∧ Lst w' 1 cI av ts.length c ts ∧ RowKit.Below W.heap.size W w' ∧ RowKit.Below w4.heap.size w4 w' := fun W h => (HU2.out W (hB8.trans (h.mono hB8.size))).mono fun e w' q => by
    obtain ⟨v, rfl, ho, hq⟩ := q
    rw [← flat_int] at ho
    obtain ⟨av, cv, rfl, _, hl⟩ := Lst.of_owns (k := 1) (enc := cI) (fun _ => rfl) (by omega) ho rfl
    exact ⟨av, cv, rfl, hl, hq, h.trans (hq.mono h.size)⟩
  have hP : ∀ W, RowKit.Below w4.heap.size w4 W → Calls Tryz.prog 16 #[] W fun e w' => e = .returned (.bool true) ∧ RowKit.Below w4.heap.size w4 w' := fun W h => (hp W).mono fun e w' q => ⟨q.1, h.trans (q.2.mono h.size)⟩
  have hS : ∀ W av c bv d, RowKit.Below w4.heap.size w4 W → Lst W 1 cI av ts.length c ts → Lst W 1 cI bv ts.length d ts → Calls Tryz.prog 21 #[.slice av ts.length c, .slice bv ts.length d] W fun e w' => e = .returned (.bool true) ∧ RowKit.Below w4.heap.size w4 w' := fun W av c bv d h h1 h2 => (sameInts_any av _ c ts bv _ d ts W h1 h2).mono fun e w' q => ⟨by rw [q.1]; simp, h.trans (q.2.mono h.size)⟩
  have HU1' := Lib.hid hU1
  have HU2' := Lib.hid hU2
  have HP := Lib.hid hP
  have HS := Lib.hid hS
  have hK : ∀ W, RowKit.Below w4.heap.size w4 W → (∀ j, W.cell? ⟨bA, j, none⟩ = (cR ra).toArray[j]?) ∧ (∀ j, W.cell? ⟨bB, j, none⟩ = (cR ra).toArray[j]?) := fun W h => ⟨(kA.below' h).cell, (kB.below' h).cell⟩
  have HK := Lib.hid hK
  clear hU1 hU2 hP hS hK kA kB HU1 HU2 HR1 HR2 HT1 HT2 hp
  have hq := eqR ra ra
  have b1 : decide (ra = ra) = true := by simp
  have b2 : (ga == ga) = true := by simp
  have b3 : (tf == tf) = true := by simp
  have b4 : (tu == tu) = true := by simp
  have b5 : (tk == tk) = true := by simp
  have b6 : (te == te) = true := by simp
  obtain ⟨T, hT⟩ : ∃ T, T = ts.length := ⟨_, rfl⟩
  rw [← hT] at HU1' HU2' HS
  clear hT
  go_wp2_with (fail)
  refine (HP.out _ (Below.refl _ _)).mono ?_
  rintro e w5 ⟨rfl, hB5⟩
  obtain ⟨m1, m2⟩ := HK.out w5 hB5
  go_wp2_with (fail)
  refine (HU1'.out w5 hB5).mono ?_
  rintro e w6 ⟨a6, c6, rfl, hl6, _, hB6⟩
  go_wp2_with (fail)
  refine (HU2'.out w6 hB6).mono ?_
  rintro e w7 ⟨a7, c7, rfl, hl7, hb7, hB7⟩
  go_wp2_with (fail)
  refine (HS.out w7 a6 c6 a7 c7 hB7 (hl6.below hb7) hl7).mono ?_
  rintro e w8 ⟨rfl, hB9⟩
  go_wp2_with (fail)
  go_ret
  exact ⟨rfl, hB8.trans (hB9.mono hB8.size)⟩

end Go.Proofs.YtollegoajlfdiaaGreat
