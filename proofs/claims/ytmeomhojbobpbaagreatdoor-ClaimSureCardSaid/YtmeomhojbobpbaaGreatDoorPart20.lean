import Derived.Test.YtmeomhojbobpbaaGreatDoorPart19
import Derived.Test.YtmeomhojbobpbaaGreatDoorPart07
import Derived.Test.YtmeomhojbobpbaaGreatDoorPart08
import Derived.Test.YtmeomhojbobpbaaGreatDoorPart11
import Derived.Test.YtmeomhojbobpbaaGreatDoorPart03
import Derived.Deep.CutRange
import Derived.Deep.DeepCutAuto
import Derived.Test.YtmeomhojbobpbaaGreatDoorPart02
import Derived.BigQuiet
import Derived.Deep.RegionHeld3
/-
  Plain law: subrogation in two parts is that of one.
-/
namespace Lg
open Go

/-- Shares that can stand in a purse. -/
def fracOk (f : Frac) : Prop := validF f = true

theorem plusO_val {a b c : Frac} (ha : 1 ≤ a.den) (hb : 1 ≤ b.den) (h : plusO a b = some c) : validF c = true ∧ c.num * (a.den * b.den) = (a.num * b.den + b.num * a.den) * c.den := by
  have hd : 0 < a.den * b.den := Int.mul_pos (by omega) (by omega)
  unfold plusO at h
  split at h
  · rename_i ho
    injection h with h
    subst h
    exact ⟨by rw [validF_normN hd]; exact ho, (normN_val _ _ hd).1⟩
  · cases h

theorem plusO_F {a b c : Frac} (ha : validF a = true) (hb : validF b = true) (h : addF a b = (c, 0)) : plusO a b = some c := by
  unfold addF lowF at h
  unfold plusO
  rw [ha, hb, if_pos (show (true && true) = true from rfl)] at h
  split at h
  · rename_i ho
    rw [if_pos ho]
    injection h with h _
    rw [h]
  · injection h with _ h; cases h

/-- A product as a value. -/
theorem timesO_val {a b c : Frac} (ha : validF a = true) (hb : validF b = true) (h : timesO a b = some c) : validF c = true ∧ c.num * (a.den * b.den) = (a.num * b.num) * c.den := by
  obtain ⟨a1, a2, a3, a4, a5⟩ := validF_parts ha
  obtain ⟨b1, b2, b3, b4, b5⟩ := validF_parts hb
  unfold timesO at h
  dsimp only at h
  have gp : ∀ {x y : Int}, 1 ≤ y → (max 1 (Int.gcd x y : Int)) = (Int.gcd x y : Int) ∧ 0 < (Int.gcd x y : Int) := fun {x y} hy => by
    have : 0 < Int.gcd x y := gcd_pos_of_den (by omega)
    omega
  obtain ⟨g1, g2⟩ := gp (x := a.num) (y := b.den) b1
  obtain ⟨k1, k2⟩ := gp (x := b.num) (y := a.den) a1
  have e1 : mulC a b = (Int.gcd a.num b.den : Int) := g1
  have e2 : mulC b a = (Int.gcd b.num a.den : Int) := k1
  rw [e1, e2] at h
  obtain ⟨m, hm⟩ := Int.gcd_dvd_left a.num b.den
  obtain ⟨q, hq⟩ := Int.gcd_dvd_right a.num b.den
  obtain ⟨n, hn⟩ := Int.gcd_dvd_left b.num a.den
  obtain ⟨p, hp⟩ := Int.gcd_dvd_right b.num a.den
  generalize (Int.gcd a.num b.den : Int) = g at *
  generalize (Int.gcd b.num a.den : Int) = k at *
  have hg : g ≠ 0 := by omega
  have hk : k ≠ 0 := by omega
  have t1 : a.num.tdiv g = m := by rw [hm]; exact Int.mul_tdiv_cancel_left m hg
  have t2 : b.num.tdiv k = n := by rw [hn]; exact Int.mul_tdiv_cancel_left n hk
  have t3 : a.den.tdiv k = p := by rw [hp]; exact Int.mul_tdiv_cancel_left p hk
  have t4 : b.den.tdiv g = q := by rw [hq]; exact Int.mul_tdiv_cancel_left q hg
  rw [t1, t2, t3, t4] at h
  have hpp : 0 < p := by
    rcases Int.lt_or_le 0 p with h | h
    · exact h
    · have : k * p ≤ 0 := Int.mul_nonpos_of_nonneg_of_nonpos (by omega) h
      omega
  have hqp : 0 < q := by
    rcases Int.lt_or_le 0 q with h | h
    · exact h
    · have : g * q ≤ 0 := Int.mul_nonpos_of_nonneg_of_nonpos (by omega) h
      omega
  have hd : 0 < p * q := Int.mul_pos hpp hqp
  split at h
  · cases h
  · split at h
    · rename_i ho
      injection h with h
      subst h
      refine ⟨by rw [validF_normN hd]; exact ho, ?_⟩
      obtain ⟨v1, _⟩ := normN_val (m * n) (p * q) hd
      generalize normN (m * n) (p * q) = c at *
      have x1 : c.num * (a.den * b.den) = (c.num * (p * q)) * (k * g) := by rw [hp, hq]; ac_rfl
      have x2 : (a.num * b.num) * c.den = ((m * n) * c.den) * (k * g) := by rw [hm, hn]; ac_rfl
      rw [x1, x2, v1]
    · cases h

theorem timesO_F {a b c : Frac} (ha : validF a = true) (hb : validF b = true) (h : mulF a b = (c, 0)) : timesO a b = some c := by
  unfold mulF at h
  rw [ha, hb, if_pos (show (true && true) = true from rfl)] at h
  cases ht : timesO a b with
  | none => rw [ht] at h; injection h with _ h; cases h
  | some r => rw [ht] at h; injection h with h _; rw [h]

/-- Two valid fractions of one value are one. -/
theorem validF_eq {a b : Frac} (ha : validF a = true) (hb : validF b = true) (h : a.num * b.den = b.num * a.den) : a = b := by
  obtain ⟨a1, _, _, _, a5⟩ := validF_parts ha
  obtain ⟨b1, _, _, _, b5⟩ := validF_parts hb
  have h1 := normN_unique (num := a.num) (den := a.den) (f := b) (by omega) (by omega) b5 h
  have h2 := normN_unique (num := a.num) (den := a.den) (f := a) (by omega) (by omega) a5 rfl
  rw [← h1, h2]

/-- The value of a fraction. -/
def valQ (f : Frac) : Rat := (f.num : Rat) / (f.den : Rat)

theorem frac_div (a b c d : Int) (hb : b ≠ 0) (hd : d ≠ 0) (h : a * d = c * b) : (a : Rat) / (b : Rat) = (c : Rat) / (d : Rat) := by
  have hb' : (b : Rat) ≠ 0 := by exact_mod_cast hb
  have hd' : (d : Rat) ≠ 0 := by exact_mod_cast hd
  have h' : (a : Rat) * d = c * b := by exact_mod_cast h
  grind

theorem div_frac (a b c d : Int) (hb : b ≠ 0) (hd : d ≠ 0) (h : (a : Rat) / (b : Rat) = (c : Rat) / (d : Rat)) : a * d = c * b := by
  have hb' : (b : Rat) ≠ 0 := by exact_mod_cast hb
  have hd' : (d : Rat) ≠ 0 := by exact_mod_cast hd
  have : (a : Rat) * d = c * b := by grind
  exact_mod_cast this

theorem valQ_inj {a b : Frac} (ha : validF a = true) (hb : validF b = true) (h : valQ a = valQ b) : a = b := by
  have a1 := (validF_parts ha).1
  have b1 := (validF_parts hb).1
  exact validF_eq ha hb (div_frac _ _ _ _ (by omega) (by omega) h)

theorem plusO_Q {a b c : Frac} (ha : validF a = true) (hb : validF b = true) (h : plusO a b = some c) : validF c = true ∧ valQ c = valQ a + valQ b := by
  have a1 := (validF_parts ha).1
  have b1 := (validF_parts hb).1
  obtain ⟨v, e⟩ := plusO_val a1 b1 h
  have c1 := (validF_parts v).1
  refine ⟨v, ?_⟩
  have hm : a.den * b.den ≠ 0 := Int.ne_of_gt (Int.mul_pos (by omega) (by omega))
  have := frac_div c.num c.den (a.num * b.den + b.num * a.den) (a.den * b.den) (by omega) hm e
  unfold valQ
  rw [this]
  have ha' : (a.den : Rat) ≠ 0 := by exact_mod_cast (show a.den ≠ 0 by omega)
  have hb' : (b.den : Rat) ≠ 0 := by exact_mod_cast (show b.den ≠ 0 by omega)
  push_cast
  grind

theorem timesO_Q {a b c : Frac} (ha : validF a = true) (hb : validF b = true) (h : timesO a b = some c) : validF c = true ∧ valQ c = valQ a * valQ b := by
  have a1 := (validF_parts ha).1
  have b1 := (validF_parts hb).1
  obtain ⟨v, e⟩ := timesO_val ha hb h
  have c1 := (validF_parts v).1
  refine ⟨v, ?_⟩
  have hm : a.den * b.den ≠ 0 := Int.ne_of_gt (Int.mul_pos (by omega) (by omega))
  have := frac_div c.num c.den (a.num * b.num) (a.den * b.den) (by omega) hm e
  unfold valQ
  rw [this]
  have ha' : (a.den : Rat) ≠ 0 := by exact_mod_cast (show a.den ≠ 0 by omega)
  have hb' : (b.den : Rat) ≠ 0 := by exact_mod_cast (show b.den ≠ 0 by omega)
  push_cast
  grind

theorem negF_Q (a : Frac) : valQ (negF a) = -valQ a := by
  unfold valQ negF
  dsimp only
  push_cast
  grind

theorem addF_Q {a b : Frac} (h : (addF a b).2 = 0) : validF a = true ∧ validF b = true ∧ validF (addF a b).1 = true ∧ valQ (addF a b).1 = valQ a + valQ b := by
  obtain ⟨h1, h2, _, _⟩ := addF_ok h
  have e : plusO a b = some (addF a b).1 := plusO_F h1 h2 (Prod.ext rfl h)
  obtain ⟨v, q⟩ := plusO_Q h1 h2 e
  exact ⟨h1, h2, v, q⟩

theorem mulF_Q {a b : Frac} (h : (mulF a b).2 = 0) : validF a = true ∧ validF b = true ∧ validF (mulF a b).1 = true ∧ valQ (mulF a b).1 = valQ a * valQ b := by
  have hv : validF a = true ∧ validF b = true := by
    unfold mulF at h
    split at h
    · rename_i hv; rw [Bool.and_eq_true] at hv; exact hv
    · cases h
  have e : timesO a b = some (mulF a b).1 := timesO_F hv.1 hv.2 (Prod.ext rfl h)
  obtain ⟨v, q⟩ := timesO_Q hv.1 hv.2 e
  exact ⟨hv.1, hv.2, v, q⟩

theorem subF_Q {a b : Frac} (h : (subF a b).2 = 0) : validF a = true ∧ validF b = true ∧ validF (subF a b).1 = true ∧ valQ (subF a b).1 = valQ a - valQ b := by
  obtain ⟨h1, h2, h3, h4⟩ := addF_Q (a := a) (b := negF b) h
  rw [validF_neg] at h2
  refine ⟨h1, h2, h3, ?_⟩
  unfold subF
  rw [h4, negF_Q]
  grind

/-- All shares of a purse are valid. -/
def PurseOk (s : List Frac) : Prop := s.length = 41 ∧ ∀ f ∈ s, validF f = true

theorem fr_mem {s : List Frac} (h : PurseOk s) {p : Int} (h0 : 0 ≤ p) (h1 : p ≤ 40) : validF (fr s p) = true := by
  have hl : p.toNat < s.length := by rw [h.1]; omega
  unfold fr
  rw [List.getD_eq_getElem?_getD, List.getElem?_eq_getElem hl]
  exact h.2 _ (List.getElem_mem hl)

theorem fr_set_self {s : List Frac} (h : s.length = 41) {p : Int} (h0 : 0 ≤ p) (h1 : p ≤ 40) (f : Frac) : fr (frSet s p f) p = f := by
  have hl : p.toNat < s.length := by rw [h]; omega
  unfold fr frSet
  rw [List.getD_eq_getElem?_getD, List.getElem?_set_self hl]; rfl

theorem fr_set_other {s : List Frac} {p q : Int} (h0 : 0 ≤ p) (h1 : 0 ≤ q) (hne : p ≠ q) (f : Frac) : fr (frSet s p f) q = fr s q := by
  unfold fr frSet
  rw [List.getD_eq_getElem?_getD, List.getElem?_set_ne (by omega), ← List.getD_eq_getElem?_getD]

theorem PurseOk.set {s : List Frac} (h : PurseOk s) (p : Int) {f : Frac} (hf : validF f = true) : PurseOk (frSet s p f) := by
  refine ⟨by unfold frSet; rw [List.length_set]; exact h.1, fun g hg => ?_⟩
  unfold frSet at hg
  rcases List.mem_or_eq_of_mem_set hg with hg | rfl
  · exact h.2 g hg
  · exact hf

/-- What a payment makes, in values. -/
theorem takeD_Q {s s1 : List Frac} {x : Deed} (hs : PurseOk s) (hx : validF x.share = true) (hf : 0 ≤ x.from_ ∧ x.from_ ≤ 40) (ht : 0 ≤ x.to_ ∧ x.to_ ≤ 40) (h : takeD s x = some s1) :
    ∃ a b, s1 = frSet (frSet s x.from_ a) x.to_ b ∧ validF a = true ∧ validF b = true ∧ valQ a = valQ (fr s x.from_) - valQ x.share * valQ (fr s x.from_) ∧ valQ b = valQ (fr s x.to_) + valQ x.share * valQ (fr s x.from_) := by
  have v1 := fr_mem hs hf.1 hf.2
  have v2 := fr_mem hs ht.1 ht.2
  unfold takeD at h
  cases h1 : timesO x.share (fr s x.from_) with
  | none => rw [h1] at h; cases h
  | some part =>
    rw [h1] at h
    simp only [Option.bind_some] at h
    obtain ⟨vp, qp⟩ := timesO_Q hx v1 h1
    cases h2 : plusO (fr s x.from_) (negF part) with
    | none => rw [h2] at h; cases h
    | some a =>
      rw [h2] at h
      simp only [Option.bind_some] at h
      obtain ⟨va, qa⟩ := plusO_Q v1 (by rw [validF_neg]; exact vp) h2
      cases h3 : plusO (fr s x.to_) part with
      | none => rw [h3] at h; cases h
      | some b =>
        rw [h3] at h
        simp only [Option.bind_some, Option.some.injEq] at h
        obtain ⟨vb, qb⟩ := plusO_Q v2 vp h3
        refine ⟨a, b, h.symm, va, vb, ?_, ?_⟩
        · rw [qa, negF_Q, qp]; grind
        · rw [qb, qp]

/-- Two payments, one behind the other, and one of both. -/
theorem take_two {s s1 s2 s3 : List Frac} {x y z : Deed} (hs : PurseOk s) (hx : validF x.share = true) (hy : validF y.share = true) (hz : validF z.share = true)
    (hf : 0 ≤ x.from_ ∧ x.from_ ≤ 40) (ht : 0 ≤ x.to_ ∧ x.to_ ≤ 40) (hne : x.to_ ≠ x.from_) (e1 : y.from_ = x.from_) (e2 : y.to_ = x.to_) (e3 : z.from_ = x.from_) (e4 : z.to_ = x.to_)
    (hq : valQ z.share = valQ x.share + valQ y.share - valQ x.share * valQ y.share)
    (h1 : takeD s x = some s1) (h2 : takeD s1 y = some s2) (h3 : takeD s z = some s3) : s2 = s3 := by
  obtain ⟨a, b, rfl, va, vb, qa, qb⟩ := takeD_Q hs hx hf ht h1
  have hs1 : PurseOk (frSet (frSet s x.from_ a) x.to_ b) := (hs.set _ va).set _ vb
  obtain ⟨a2, b2, rfl, va2, vb2, qa2, qb2⟩ := takeD_Q hs1 hy (by rw [e1]; exact hf) (by rw [e2]; exact ht) h2
  obtain ⟨a3, b3, rfl, va3, vb3, qa3, qb3⟩ := takeD_Q hs hz (by rw [e3]; exact hf) (by rw [e4]; exact ht) h3
  rw [e1, e2] at *
  rw [e3, e4] at *
  have l1 : (frSet s x.from_ a).length = 41 := by unfold frSet; rw [List.length_set]; exact hs.1
  have f1 : fr (frSet (frSet s x.from_ a) x.to_ b) x.from_ = a := by rw [fr_set_other ht.1 hf.1 hne, fr_set_self hs.1 hf.1 hf.2]
  have f2 : fr (frSet (frSet s x.from_ a) x.to_ b) x.to_ = b := fr_set_self l1 ht.1 ht.2 b
  rw [f1] at qa2 qb2
  rw [f2] at qb2
  have ea : a2 = a3 := valQ_inj va2 va3 (by rw [qa2, qa3, qa, hq]; grind)
  have eb : b2 = b3 := valQ_inj vb2 vb3 (by rw [qb2, qb3, qa, qb, hq]; grind)
  subst ea eb
  unfold frSet
  have hn : x.to_.toNat ≠ x.from_.toNat := by omega
  rw [List.set_comm _ _ hn, List.set_set, List.set_set]

end Lg

/-
  Walks: sums, differences and products of fractions, and giving up.
-/
namespace Go.Proofs.YtmeomhojbobpbaaGreatDoor
open Go.RowKit Lg Go.Sort Go.Shelf

theorem plusO_ok (a b c : Frac) (w : World) (ha : frOk a) (hb : frOk b) (h : plusO a b = some c) : Calls Tryz.prog 69 #[aF a, aF b] w (Gives w (aF c)) := by
  unfold plusO at h
  split at h
  · rename_i ho
    injection h with h
    rw [← h]
    exact plus_ok a b w ha hb ho
  · cases h
theorem plusO_up (a b : Frac) (w : World) (ha : frOk a) (hb : frOk b) (h : plusO a b = none) : Calls Tryz.prog 69 #[aF a, aF b] w fun e w' => e = .panicked [{ v := upV, recovered := false }] ∧ RowKit.Below w.heap.size w w' := by
  unfold plusO at h
  split at h
  · cases h
  · rename_i ho
    exact plus_up a b w ha hb (by simpa using ho)

theorem frOk_neg {b : Frac} (h : frOk b) : frOk (negF b) := by
  unfold frOk negF at *
  dsimp only
  omega

set_option maxRecDepth 100000 in
set_option maxHeartbeats 1600000 in
theorem minusO_ok (a b c : Frac) (w : World) (ha : frOk a) (hb : frOk b) (h : plusO a (negF b) = some c) : Calls Tryz.prog 95 #[aF a, aF b] w (Gives w (aF c)) := by
  have hp := fun W => plusO_ok a (negF b) c W ha (frOk_neg hb) h
  unfold negF at hp
  obtain ⟨b1, b2, b3, b4⟩ := hb
  clear h ha
  go_enter Tryz.func95, Tryz.ntmps95
  go_wp2_with (fail)
  refine (hp _).mono ?_
  clear hp
  rintro e w2 ⟨rfl, hB⟩
  have k4 : Blk w2 (w.heap.size + 1 + 1) #[.int .i64 0, .int .i64 0] 83 := (Blk.nw2 w _ _ _ _).below' hB
  have hb0 : RowKit.Below w.heap.size w w2 := ((((Below.refl _ w).alloc (Nat.le_refl _) _).alloc (by simp) _).alloc (by simp; omega) _).trans (hB.mono (by simp; omega))
  have c4 := k4.cell
  have f4 := k4.frozen
  go_wp2_with (fail)
  refine bodyPost_ret (results_cell_row rfl _ _ (w.heap.size + 1 + 1) 83 _ _ _ rfl ((k4.setCell 0 _).setCell 1 _) Tryz.underlying83 rfl (by kernel_rfl)) rfl ⟨?_, (hb0.setCell (p := ⟨w.heap.size + 1 + 1, 0, none⟩) (by simp; omega) _).setCell (p := ⟨w.heap.size + 1 + 1, 1, none⟩) (by simp; omega) _⟩
  rfl

set_option maxRecDepth 100000 in
set_option maxHeartbeats 1600000 in
theorem minusO_up (a b : Frac) (w : World) (ha : frOk a) (hb : frOk b) (h : plusO a (negF b) = none) : Calls Tryz.prog 95 #[aF a, aF b] w fun e w' => e = .panicked [{ v := upV, recovered := false }] ∧ RowKit.Below w.heap.size w w' := by
  have hp := fun W => plusO_up a (negF b) W ha (frOk_neg hb) h
  unfold negF at hp
  obtain ⟨b1, b2, b3, b4⟩ := hb
  clear h ha
  go_enter Tryz.func95, Tryz.ntmps95
  go_wp2_with (fail)
  refine (hp _).mono ?_
  clear hp
  rintro e w2 ⟨rfl, hB⟩
  have hb0 : RowKit.Below w.heap.size w w2 := ((((Below.refl _ w).alloc (Nat.le_refl _) _).alloc (by simp) _).alloc (by simp; omega) _).trans (hB.mono (by simp; omega))
  exact ⟨rfl, rfl, hb0⟩

end Go.Proofs.YtmeomhojbobpbaaGreatDoor

/-
  Walks: valid fractions, as the reference of claims has them.
-/
namespace Go.Proofs.YtmeomhojbobpbaaGreatDoor
open Go.RowKit Lg Go.Sort

set_option maxRecDepth 100000 in
set_option maxHeartbeats 1600000 in
theorem valid5_any (f : Frac) (w : World) : Calls Tryz.prog 70 #[aF f] w (Gives w (.bool (validF f))) := by
  obtain ⟨q, hq⟩ : ∃ q, q = validF f := ⟨_, rfl⟩
  rw [← hq]
  unfold validF at hq
  have kB := Blk.new w 25 #[.int .i64 f.num, .int .i64 f.den]
  have c0 := kB.cell
  have hb : RowKit.Below w.heap.size w (w.alloc (.cells #[.int .i64 f.num, .int .i64 f.den] 25)) := (Below.refl _ w).alloc (Nat.le_refl _) _
  have h1 := fun W => withinr5_any f.den 1 1000000 W
  have h2 := fun W => withinr5_any f.num (-1000000000000) 1000000000000 W
  rcases Bool.eq_false_or_eq_true (inn f.den 1 1000000) with q1 | q1
  · rcases Bool.eq_false_or_eq_true (inn f.num (-1000000000000) 1000000000000) with q2 | q2
    · have b1 := (inn_iff _ _ _).1 q1
      have b2 := (inn_iff _ _ _).1 q2
      have h3 := fun W => divisor5_any f.num f.den W ⟨by omega, by omega⟩ ⟨by omega, by omega⟩
      rw [q1] at h1
      rw [q2] at h2
      rw [q1, q2] at hq
      simp only [Bool.true_and] at hq
      by_cases hg : Int.gcd f.num f.den = 1
      · rw [decide_eq_true hg] at hq
        subst hq
        rw [hg] at h3
        clear q1 q2 b1 b2 hg
        go_enter Tryz.func70, Tryz.ntmps70
        go_wp2_with (first
          | (go_at_call 76; (first | (with_reducible refine (h1 _).mono ?_) | (with_reducible refine (h2 _).mono ?_)); rintro e w3 ⟨rfl, rfl⟩)
          | (go_at_call 118; (with_reducible refine (h3 _).mono ?_); rintro e w3 ⟨rfl, rfl⟩))
        go_ret
        exact ⟨rfl, hb⟩
      · have g1 : ((Int.gcd f.num f.den : Int) == 1) = false := by simp; omega
        rw [decide_eq_false hg] at hq
        subst hq
        clear q1 q2 b1 b2 hg
        generalize (Int.gcd f.num f.den : Int) = g at *
        go_enter Tryz.func70, Tryz.ntmps70
        go_wp2_with (first
          | (go_at_call 76; (first | (with_reducible refine (h1 _).mono ?_) | (with_reducible refine (h2 _).mono ?_)); rintro e w3 ⟨rfl, rfl⟩)
          | (go_at_call 118; (with_reducible refine (h3 _).mono ?_); rintro e w3 ⟨rfl, rfl⟩))
        go_ret
        exact ⟨rfl, hb⟩
    · rw [q1] at h1
      rw [q2] at h2
      rw [q1, q2] at hq
      simp only [Bool.true_and, Bool.false_and] at hq
      subst hq
      clear q1 q2
      go_enter Tryz.func70, Tryz.ntmps70
      go_wp2_with (go_at_call 76; (first | (with_reducible refine (h1 _).mono ?_) | (with_reducible refine (h2 _).mono ?_)); rintro e w3 ⟨rfl, rfl⟩)
      go_ret
      exact ⟨rfl, hb⟩
  · rw [q1] at h1
    rw [q1] at hq
    simp only [Bool.false_and] at hq
    subst hq
    clear q1 h2
    go_enter Tryz.func70, Tryz.ntmps70
    go_wp2_with (go_at_call 76; (with_reducible refine (h1 _).mono ?_); rintro e w3 ⟨rfl, rfl⟩)
    go_ret
    exact ⟨rfl, hb⟩

set_option maxRecDepth 100000 in
set_option maxHeartbeats 1600000 in
theorem both5_any (a b : Frac) (w : World) : Calls Tryz.prog 115 #[aF a, aF b] w (Gives w (.int .i64 (if (validF a && validF b) = true then 0 else 1))) := by
  obtain ⟨q, hq⟩ : ∃ q : Int, q = (if (validF a && validF b) = true then 0 else 1) := ⟨_, rfl⟩
  rw [← hq]
  obtain ⟨w1, hw1⟩ : ∃ w1, w1 = (w.alloc (.cells (cF a).toArray 25)).alloc (.cells (cF b).toArray 25) := ⟨_, rfl⟩
  have kA : Blk w1 w.heap.size (cF a).toArray 25 := hw1 ▸ (Blk.new w _ _).alloc _
  have kB : Blk w1 (w.heap.size + 1) (cF b).toArray 25 := by
    have := Blk.new (w.alloc (.cells (cF a).toArray 25)) 25 (cF b).toArray
    rw [hw1]; simpa using this
  have hb1 : RowKit.Below w.heap.size w w1 := hw1 ▸ ((Below.refl _ w).alloc (Nat.le_refl _) _).alloc (by simp) _
  have hA := fun W => valid5_any a W
  have hB := fun W => valid5_any b W
  have cA := kA.cell
  have cB := kB.cell
  cases ha : validF a <;> cases hv : validF b
  all_goals
    rw [ha] at hA hq
    rw [hv] at hB hq
    simp only [Bool.and_self, Bool.and_true, Bool.and_false, Bool.false_eq_true, if_true, if_false] at hq
    subst hq
    clear ha hv
    go_enter Tryz.func115, Tryz.ntmps115
    go_wp2_with (fail)
    rw [← hw1]
    refine (hA w1).mono ?_
    rintro e w2 ⟨rfl, hB2⟩
    have kA2 := kA.below' hB2
    have kB2 := kB.below' hB2
    have hb2 := hb1.trans (hB2.mono hb1.size)
    have cB2 := kB2.cell
    clear cA cB
    go_wp2_with (fail)
    refine (hB w2).mono ?_
    rintro e w3 ⟨rfl, hB3⟩
    go_wp2_with (fail)
    go_ret
    exact ⟨rfl, hb2.trans (hB3.mono hb2.size)⟩

end Go.Proofs.YtmeomhojbobpbaaGreatDoor

/-
  Walks: fractions in lowest terms, sums of two, comparisons, as the reference of claims has them.
-/
namespace Go.Proofs.YtmeomhojbobpbaaGreatDoor
open Go.RowKit Lg Go.Sort

theorem putF (w : World) (B : Nat) (x : Frac) : ((w.setCell ⟨B, 0, none⟩ (.int .i64 x.num)).setCell ⟨B, 1, none⟩ (.int .i64 x.den)) = w.setCells B 0 (cF x) := rfl
theorem putF0 (w : World) (B : Nat) : ((w.setCell ⟨B, 0, none⟩ (.int .i64 0)).setCell ⟨B, 1, none⟩ (.int .i64 0)) = w.setCells B 0 (cF ⟨0, 0⟩) := rfl
theorem setAll_zeroF (z : Frac) : setAll #[.int .i64 0, .int .i64 0] 0 (cF z) = (cF z).toArray := rfl

theorem tdiv_wide {a g : Int} (ha : -4000000000000000000 ≤ a ∧ a ≤ 4000000000000000000) : -4000000000000000000 ≤ a.tdiv g ∧ a.tdiv g ≤ 4000000000000000000 := by
  have h := Int.natAbs_tdiv_le_natAbs a g
  omega

set_option maxRecDepth 100000 in
set_option maxHeartbeats 1600000 in
theorem lowest5_any (num den : Int) (w : World) (hn : -4000000000000000000 ≤ num ∧ num ≤ 4000000000000000000) (hd : 0 < den ∧ den ≤ 4000000000000000000) :
    Calls Tryz.prog 77 #[.int .i64 num, .int .i64 den] w (Gives w (.tuple #[aF (lowF num den).1, .int .i64 (lowF num den).2])) := by
  have h3 := fun W => divisor5_any num den W hn ⟨by omega, by omega⟩
  have hg := gcd_pos_of_den (num := num) (den := den) (by omega)
  obtain ⟨r, hr⟩ : ∃ r, r = lowF num den := ⟨_, rfl⟩
  rw [← hr]
  unfold lowF at hr
  rw [← validF_normN hd.1] at hr
  have e1 : normN num den = ⟨num.tdiv (Int.gcd num den : Int), den.tdiv (Int.gcd num den : Int)⟩ := by
    unfold normN normD; rw [if_neg (by omega)]
  rw [e1] at hr
  clear e1
  have b1 := tdiv_wide (g := (Int.gcd num den : Int)) hn
  have b2 := tdiv_wide (a := den) (g := (Int.gcd num den : Int)) ⟨by omega, by omega⟩
  obtain ⟨g, hgd⟩ : ∃ g : Int, g = (Int.gcd num den : Int) := ⟨_, rfl⟩
  rw [← hgd] at h3 hr b1 b2
  have hg0 : 0 < g := by omega
  have hg1 : (g == 0) = false := by simp; omega
  have hg2 : g ≠ 0 := by omega
  obtain ⟨p, hp⟩ : ∃ p, num.tdiv g = p := ⟨_, rfl⟩
  obtain ⟨q, hq⟩ : ∃ q, den.tdiv g = q := ⟨_, rfl⟩
  rw [hp, hq] at hr
  rw [hp] at b1
  rw [hq] at b2
  have wp1 : IntKind.i64.wrap p = p := by rw [IntKind.wrap_i64]; omega
  have wq1 : IntKind.i64.wrap q = q := by rw [IntKind.wrap_i64]; omega
  have k0 : Blk (w.alloc (.cells #[.int .i64 0, .int .i64 0] 25)) w.heap.size #[.int .i64 0, .int .i64 0] 25 := Blk.new w _ _
  have hb0 : RowKit.Below w.heap.size w (w.alloc (.cells #[.int .i64 0, .int .i64 0] 25)) := (Below.refl _ w).alloc (Nat.le_refl _) _
  have hv := fun W => valid5_any ⟨p, q⟩ W
  have Hr := Lib.hid hr
  clear hr hg hgd hn hd b1 b2
  go_enter Tryz.func77, Tryz.ntmps77
  go_wp2_with (fail)
  refine (h3 _).mono ?_
  rintro e w3 ⟨rfl, rfl⟩
  obtain ⟨w1, hw1⟩ : ∃ w1, w1 = w.alloc (.cells #[.int .i64 0, .int .i64 0] 25) := ⟨_, rfl⟩
  rw [← hw1] at k0 hb0 ⊢
  clear hw1 h3
  go_wp2_with (fail)
  go_region
  obtain ⟨w2, hw2⟩ : ∃ w2, w2 = (w1.alloc (.cells #[.int .i64 p, .int .i64 q] 25)).drew := ⟨_, rfl⟩
  rw [← hw2]
  have k2 : Blk w2 w1.heap.size #[.int .i64 p, .int .i64 q] 25 := hw2 ▸ (Blk.new w1 _ _).drew
  have k02 : Blk w2 w.heap.size #[.int .i64 0, .int .i64 0] 25 := hw2 ▸ (k0.alloc _).drew
  have hb2 : RowKit.Below w.heap.size w w2 := hw2 ▸ (hb0.alloc hb0.size _).drew
  clear hw2 k0 hb0
  have c2 := k2.cell
  go_wp2_with (fail)
  refine (hv w2).mono ?_
  rintro e w3 ⟨rfl, hB3⟩
  have k3 := k2.below' hB3
  have k03 := k02.below' hB3
  have hb3 := hb2.trans (hB3.mono hb2.size)
  clear c2 k2 k02 hb2 hB3 hv
  have c3 := k3.cell
  have c0 := k03.cell
  have f0 := k03.frozen
  have l0 := k03.lt
  generalize w1.heap.size = B1 at *
  cases hvv : validF ⟨p, q⟩ with
  | true =>
    have hr := Hr.out
    rw [hvv, if_pos rfl] at hr
    subst hr
    clear Hr hvv
    go_wp2_with (fail)
    have hbl : Blk (w3.setCells w.heap.size 0 (cF ⟨p, q⟩)) w.heap.size (cF ⟨p, q⟩).toArray 25 := by
      rw [← setAll_zeroF ⟨p, q⟩]
      exact k03.setCells 0 (cF ⟨p, q⟩)
    rw [putF w3 w.heap.size ⟨p, q⟩]
    (try simp only [Exit.inBlock, Exit.then]); refine bodyPost_ret (results_cell_tmp rfl _ _ w.heap.size 25 (cF ⟨p, q⟩) _ rfl hbl Tryz.underlying25 rfl (by kernel_rfl)) rfl ?_
    exact ⟨rfl, below_setCells hb3 (Nat.le_refl _) _ _⟩
  | false =>
    have hr := Hr.out
    rw [hvv, if_neg (by simp)] at hr
    subst hr
    clear Hr hvv
    go_wp2_with (fail)
    have hbl : Blk (w3.setCells w.heap.size 0 (cF ⟨0, 0⟩)) w.heap.size (cF ⟨0, 0⟩).toArray 25 := by
      rw [← setAll_zeroF ⟨0, 0⟩]
      exact k03.setCells 0 (cF ⟨0, 0⟩)
    rw [putF0 w3 w.heap.size]
    (try simp only [Exit.inBlock, Exit.then]); refine bodyPost_ret (results_cell_tmp rfl _ _ w.heap.size 25 (cF ⟨0, 0⟩) _ rfl hbl Tryz.underlying25 rfl (by kernel_rfl)) rfl ?_
    exact ⟨rfl, below_setCells hb3 (Nat.le_refl _) _ _⟩

end Go.Proofs.YtmeomhojbobpbaaGreatDoor

/-
  Walks: sums of two fractions, comparisons, as the reference of claims has them.
-/
namespace Go.Proofs.YtmeomhojbobpbaaGreatDoor
open Go.RowKit Lg Go.Sort

theorem results_cell1 {P : Program} {fn : Func} {p : Tmp} {ty : TypeId} (h : fn.results = #[.cell p ty]) (tmps : Array Value) (w : World) (g : Nat) (T : TypeId) (cs : List Value) (d : TypeDesc)
    (hp : tmps.getD p undef = .pointer (some ⟨g, 0, none⟩)) (hg : Blk w g cs.toArray T) (hu : P.underlying ty = some d) (hd : d.isRow = true) (hi : (P.info? ty).map (·.size) = some cs.length) :
    (results fn tmps).run P w = .ok (.agg cs.toArray) w := by
  have hp' : tmps[p]?.getD undef = .pointer (some ⟨g, 0, none⟩) := by simpa using hp
  simp [results, h, hp', asAddr, run_loadVar_blk w g T ty cs d hg hu hd hi]

theorem mul_12_6 {a b : Int} (h : -1000000000000 ≤ a ∧ a ≤ 1000000000000) (h2 : 1 ≤ b ∧ b ≤ 1000000) : -1000000000000000000 ≤ a * b ∧ a * b ≤ 1000000000000000000 := by
  have h3 : a * b ≤ 1000000000000 * b := Int.mul_le_mul_of_nonneg_right h.2 (by omega)
  have h4 : -1000000000000 * b ≤ a * b := Int.mul_le_mul_of_nonneg_right h.1 (by omega)
  omega

theorem mul_6_6 {a b : Int} (h : 1 ≤ a ∧ a ≤ 1000000) (h2 : 1 ≤ b ∧ b ≤ 1000000) : 1 ≤ a * b ∧ a * b ≤ 1000000000000 := by
  have h3 : a * b ≤ 1000000 * b := Int.mul_le_mul_of_nonneg_right h.2 (by omega)
  have h4 : 1 * b ≤ a * b := Int.mul_le_mul_of_nonneg_right h.1 (by omega)
  omega

set_option maxRecDepth 100000 in
set_option maxHeartbeats 1600000 in
theorem none5_any (w : World) : Calls Tryz.prog 78 #[] w (Gives w (aF ⟨0, 1⟩)) := by
  have hbl : Blk (w.alloc (.cells #[.int .i64 0, .int .i64 1] 25)) w.heap.size (cF ⟨0, 1⟩).toArray 25 := Blk.new w _ _
  have hb0 : RowKit.Below w.heap.size w (w.alloc (.cells #[.int .i64 0, .int .i64 1] 25)) := (Below.refl _ w).alloc (Nat.le_refl _) _
  go_enter Tryz.func78, Tryz.ntmps78
  go_wp2_with (fail)
  (try simp only [Exit.inBlock, Exit.then])
  refine bodyPost_ret (results_cell1 rfl _ _ w.heap.size 25 (cF ⟨0, 1⟩) _ rfl hbl Tryz.underlying25 rfl (by kernel_rfl)) rfl ?_
  exact ⟨rfl, hb0⟩

set_option maxRecDepth 100000 in
set_option maxHeartbeats 1600000 in
theorem compare5_any (a b : Frac) (w : World) : Calls Tryz.prog 54 #[aF a, aF b] w (Gives w (.int .i64 (cmpF a b))) := by
  obtain ⟨r, hr⟩ : ∃ r, r = cmpF a b := ⟨_, rfl⟩
  rw [← hr]
  unfold cmpF at hr
  obtain ⟨w1, hw1⟩ : ∃ w1, w1 = (w.alloc (.cells (cF a).toArray 25)).alloc (.cells (cF b).toArray 25) := ⟨_, rfl⟩
  have kA : Blk w1 w.heap.size (cF a).toArray 25 := hw1 ▸ (Blk.new w _ _).alloc _
  have kB : Blk w1 (w.heap.size + 1) (cF b).toArray 25 := by
    have := Blk.new (w.alloc (.cells (cF a).toArray 25)) 25 (cF b).toArray
    rw [hw1]; simpa using this
  have hb1 : RowKit.Below w.heap.size w w1 := hw1 ▸ ((Below.refl _ w).alloc (Nat.le_refl _) _).alloc (by simp) _
  have hA := fun W => both5_any a b W
  have cA := kA.cell
  have cB := kB.cell
  cases hv : (validF a && validF b) with
  | false =>
    rw [hv] at hA hr
    simp only [Bool.false_eq_true, if_false] at hr hA
    subst hr
    clear hv
    go_enter Tryz.func54, Tryz.ntmps54
    go_wp2_with (fail)
    rw [← hw1]
    refine (hA w1).mono ?_
    rintro e w2 ⟨rfl, hB2⟩
    go_wp2_with (fail)
    go_ret
    exact ⟨rfl, hb1.trans (hB2.mono hb1.size)⟩
  | true =>
    rw [Bool.and_eq_true] at hv
    have a1 := validF_ok hv.1
    have a2 := validF_ok hv.2
    rw [hv.1, hv.2] at hA hr
    simp only [Bool.and_self, if_true] at hr hA
    have m1 := mul_12_6 ⟨a1.1, a1.2.1⟩ a2.2.2
    have m2 := mul_12_6 ⟨a2.1, a2.2.1⟩ a1.2.2
    have e1 : IntKind.i64.wrap (a.num * b.den) = a.num * b.den := by rw [IntKind.wrap_i64]; omega
    have e2 : IntKind.i64.wrap (b.num * a.den) = b.num * a.den := by rw [IntKind.wrap_i64]; omega
    obtain ⟨m11, m12⟩ := m1
    obtain ⟨m21, m22⟩ := m2
    clear a1 a2 hv
    by_cases h1 : a.num * b.den < b.num * a.den
    · rw [if_pos h1] at hr
      subst hr
      go_enter Tryz.func54, Tryz.ntmps54
      go_wp2_with (fail)
      rw [← hw1]
      refine (hA w1).mono ?_
      rintro e w2 ⟨rfl, hB2⟩
      have cA2 := (kA.below' hB2).cell
      have cB2 := (kB.below' hB2).cell
      clear cA cB
      go_wp2_with (fail)
      go_ret
      exact ⟨rfl, hb1.trans (hB2.mono hb1.size)⟩
    · rw [if_neg h1] at hr
      by_cases h2 : b.num * a.den < a.num * b.den
      · rw [if_pos h2] at hr
        subst hr
        go_enter Tryz.func54, Tryz.ntmps54
        go_wp2_with (fail)
        rw [← hw1]
        refine (hA w1).mono ?_
        rintro e w2 ⟨rfl, hB2⟩
        have cA2 := (kA.below' hB2).cell
        have cB2 := (kB.below' hB2).cell
        clear cA cB
        go_wp2_with (fail)
        go_ret
        exact ⟨rfl, hb1.trans (hB2.mono hb1.size)⟩
      · rw [if_neg h2] at hr
        subst hr
        go_enter Tryz.func54, Tryz.ntmps54
        go_wp2_with (fail)
        rw [← hw1]
        refine (hA w1).mono ?_
        rintro e w2 ⟨rfl, hB2⟩
        have cA2 := (kA.below' hB2).cell
        have cB2 := (kB.below' hB2).cell
        clear cA cB
        go_wp2_with (fail)
        go_ret
        exact ⟨rfl, hb1.trans (hB2.mono hb1.size)⟩

set_option maxRecDepth 100000 in
set_option maxHeartbeats 1600000 in
theorem add5_any (a b : Frac) (w : World) : Calls Tryz.prog 59 #[aF a, aF b] w (Gives w (.tuple #[aF (addF a b).1, .int .i64 (addF a b).2])) := by
  obtain ⟨r, hr⟩ : ∃ r, r = addF a b := ⟨_, rfl⟩
  rw [← hr]
  unfold addF at hr
  obtain ⟨w1, hw1⟩ : ∃ w1, w1 = ((w.alloc (.cells (cF a).toArray 25)).alloc (.cells (cF b).toArray 25)).alloc (.cells #[.int .i64 0, .int .i64 0] 25) := ⟨_, rfl⟩
  have kA : Blk w1 w.heap.size (cF a).toArray 25 := hw1 ▸ ((Blk.new w _ _).alloc _).alloc _
  have kB : Blk w1 (w.heap.size + 1) (cF b).toArray 25 := by
    have := (Blk.new (w.alloc (.cells (cF a).toArray 25)) 25 (cF b).toArray).alloc (.cells #[.int .i64 0, .int .i64 0] 25)
    rw [hw1]; simpa using this
  have kR : Blk w1 (w.heap.size + 1 + 1) #[.int .i64 0, .int .i64 0] 25 := by
    have := Blk.new ((w.alloc (.cells (cF a).toArray 25)).alloc (.cells (cF b).toArray 25)) 25 #[.int .i64 0, .int .i64 0]
    rw [hw1]; simpa using this
  have hb1 : RowKit.Below w.heap.size w w1 := hw1 ▸ (((Below.refl _ w).alloc (Nat.le_refl _) _).alloc (by simp) _).alloc (by simp; omega) _
  have hA := fun W => both5_any a b W
  have cA := kA.cell
  have cB := kB.cell
  have cR := kR.cell
  have fR := kR.frozen
  have lR := kR.lt
  cases hv : (validF a && validF b) with
  | false =>
    rw [hv] at hA hr
    simp only [Bool.false_eq_true, if_false] at hr hA
    subst hr
    clear hv
    go_enter Tryz.func59, Tryz.ntmps59
    go_wp2_with (fail)
    rw [← hw1]
    refine (hA w1).mono ?_
    rintro e w2 ⟨rfl, hB2⟩
    have k2 := kR.below' hB2
    have hb2 := hb1.trans (hB2.mono hb1.size)
    clear cA cB cR fR lR
    have cR := k2.cell
    have fR := k2.frozen
    have lR := k2.lt
    go_wp2_with (fail)
    have hbl : Blk (w2.setCells (w.heap.size + 1 + 1) 0 (cF ⟨0, 0⟩)) (w.heap.size + 1 + 1) (cF ⟨0, 0⟩).toArray 25 := by
      rw [← setAll_zeroF ⟨0, 0⟩]
      exact k2.setCells 0 (cF ⟨0, 0⟩)
    rw [putF0 w2 (w.heap.size + 1 + 1)]
    (try simp only [Exit.inBlock, Exit.then]); refine bodyPost_ret (results_cell_tmp rfl _ _ (w.heap.size + 1 + 1) 25 (cF ⟨0, 0⟩) _ rfl hbl Tryz.underlying25 rfl (by kernel_rfl)) rfl ?_
    exact ⟨rfl, below_setCells hb2 (by omega) _ _⟩
  | true =>
    rw [Bool.and_eq_true] at hv
    have a1 := validF_ok hv.1
    have a2 := validF_ok hv.2
    rw [hv.1, hv.2] at hA hr
    simp only [Bool.and_self, if_true] at hr hA
    have m1 := mul_12_6 ⟨a1.1, a1.2.1⟩ a2.2.2
    have m2 := mul_12_6 ⟨a2.1, a2.2.1⟩ a1.2.2
    have m3 := mul_6_6 a1.2.2 a2.2.2
    have hlow := fun W => lowest5_any (a.num * b.den + b.num * a.den) (a.den * b.den) W ⟨by omega, by omega⟩ ⟨by omega, by omega⟩
    rw [← hr] at hlow
    have e1 : IntKind.i64.wrap (a.num * b.den) = a.num * b.den := by rw [IntKind.wrap_i64]; omega
    have e2 : IntKind.i64.wrap (b.num * a.den) = b.num * a.den := by rw [IntKind.wrap_i64]; omega
    have e3 : IntKind.i64.wrap (a.den * b.den) = a.den * b.den := by rw [IntKind.wrap_i64]; omega
    have e4 : IntKind.i64.wrap (a.num * b.den + b.num * a.den) = a.num * b.den + b.num * a.den := by rw [IntKind.wrap_i64]; omega
    obtain ⟨m11, m12⟩ := m1
    obtain ⟨m21, m22⟩ := m2
    obtain ⟨m31, m32⟩ := m3
    clear a1 a2 hv hr
    go_enter Tryz.func59, Tryz.ntmps59
    go_wp2_with (fail)
    rw [← hw1]
    refine (hA w1).mono ?_
    rintro e w2 ⟨rfl, hB2⟩
    have kR2 := kR.below' hB2
    have cA2 := (kA.below' hB2).cell
    have cB2 := (kB.below' hB2).cell
    have hb2 := hb1.trans (hB2.mono hb1.size)
    clear cA cB cR fR lR
    go_wp2_with (fail)
    refine (hlow w2).mono ?_
    rintro e w3 ⟨rfl, hB3⟩
    have k3 := kR2.below' hB3
    have hb3 := hb2.trans (hB3.mono hb2.size)
    have cR := k3.cell
    have fR := k3.frozen
    have lR := k3.lt
    go_wp2_with (fail)
    have hbl : Blk (w3.setCells (w.heap.size + 1 + 1) 0 (cF r.1)) (w.heap.size + 1 + 1) (cF r.1).toArray 25 := by
      rw [← setAll_zeroF r.1]
      exact k3.setCells 0 (cF r.1)
    rw [putF w3 (w.heap.size + 1 + 1) r.1]
    (try simp only [Exit.inBlock, Exit.then]); refine bodyPost_ret (results_cell_tmp rfl _ _ (w.heap.size + 1 + 1) 25 (cF r.1) _ rfl hbl Tryz.underlying25 rfl (by kernel_rfl)) rfl ?_
    exact ⟨rfl, below_setCells hb3 (by omega) _ _⟩

end Go.Proofs.YtmeomhojbobpbaaGreatDoor
