import Derived.Sort.Defs
import Derived.Test.YtkeppoiomjhkpaaGreatDoorPart01
import Derived.Lib.Hide
import Derived.StillTailTactics
import Derived.BigRegion
import Derived.BigQuiet
/-
  Plain functions: the stable sort of the library as it goes, over an array of numbers of places.
-/
namespace Lg
open Go

def ltC (cf : Nat → Nat → Int) (x y : Nat) : Bool := decide (cf x y < 0)

/-- The first n exchanges of two ranges. -/
def swapRange (d : Array Nat) (a b : Nat) : Nat → Array Nat
  | 0 => d
  | n + 1 => Sort.swp (swapRange d a b n) (a + n) (b + n)

def rotL (m : Nat) (i j : Nat) (d : Array Nat) : Array Nat :=
  if i = j then swapRange d (m - i) m i
  else if j < i then (if _h : 0 < j then rotL m (i - j) j (swapRange d (m - i) m j) else d)
  else (if _h : 0 < i then rotL m i (j - i) (swapRange d (m - i) (m + j - i) i) else d)
termination_by i + j

def rotate (d : Array Nat) (a m b : Nat) : Array Nat := rotL m (m - a) (b - m) d

/-- A binary search: where it ends. -/
def bsc (p : Nat → Bool) (i j : Nat) : Nat :=
  if i < j then (if p ((i + j) / 2) then bsc p ((i + j) / 2 + 1) j else bsc p i ((i + j) / 2)) else i
termination_by j - i
decreasing_by all_goals omega

def shUp (d : Array Nat) (a : Nat) : Nat → Array Nat
  | 0 => d
  | n + 1 => Sort.swp (shUp d a n) (a + n) (a + n + 1)

def shDn (d : Array Nat) (m : Nat) : Nat → Array Nat
  | 0 => d
  | n + 1 => Sort.swp (shDn d m n) (m - n) (m - n - 1)

def symStart (lt : Nat → Nat → Bool) (a m b : Nat) (d : Array Nat) : Nat :=
  bsc (fun c => !lt d[(a + b) / 2 + m - 1 - c]! d[c]!) (if (a + b) / 2 < m then (a + b) / 2 + m - b else a) (if (a + b) / 2 < m then (a + b) / 2 else m)

def symM (lt : Nat → Nat → Bool) : Nat → Nat → Nat → Nat → Array Nat → Array Nat
  | 0, _, _, _, d => d
  | f + 1, a, m, b, d =>
    if m - a = 1 then shUp d a (bsc (fun h => lt d[h]! d[a]!) m b - 1 - a)
    else if b - m = 1 then shDn d m (m - bsc (fun h => !lt d[m]! d[h]!) a m)
    else
      let s := symStart lt a m b d
      let e := (a + b) / 2 + m - s
      let d1 := if s < m ∧ m < e then rotate d s m e else d
      let d2 := if a < s ∧ s < (a + b) / 2 then symM lt f a s ((a + b) / 2) d1 else d1
      if (a + b) / 2 < e ∧ e < b then symM lt f ((a + b) / 2) e b d2 else d2

def stA (lt : Nat → Nat → Bool) (n : Nat) : Nat → Nat → Array Nat → Array Nat
  | 0, a, d => Sort.insertionSort lt d a n
  | f + 1, a, d => if a + 20 ≤ n then stA lt n f (a + 20) (Sort.insertionSort lt d a (a + 20)) else Sort.insertionSort lt d a n

def stMg (lt : Nat → Nat → Bool) (n bs : Nat) : Nat → Nat → Array Nat → Array Nat
  | 0, _, d => d
  | f + 1, a, d => if a + 2 * bs ≤ n then stMg lt n bs f (a + 2 * bs) (symM lt n a (a + bs) (a + 2 * bs) d) else if a + bs < n then symM lt n a (a + bs) n d else d

def stO (lt : Nat → Nat → Bool) (n : Nat) : Nat → Nat → Array Nat → Array Nat
  | 0, _, d => d
  | f + 1, bs, d => if bs < n then stO lt n f (2 * bs) (stMg lt n bs n 0 d) else d

def stableS (lt : Nat → Nat → Bool) (d : Array Nat) : Array Nat := stO lt d.size d.size 20 (stA lt d.size d.size 0 d)

theorem swapRange_size (d : Array Nat) (a b n : Nat) : (swapRange d a b n).size = d.size := by
  induction n with
  | zero => rfl
  | succ n ih => rw [swapRange]; simp [Sort.swp, ih]

theorem rotL_size (m i j : Nat) (d : Array Nat) : (rotL m i j d).size = d.size := by
  fun_induction rotL m i j d with
  | case1 => rw [swapRange_size]
  | case2 _ _ _ _ _ _ ih => rw [ih, swapRange_size]
  | case3 => rfl
  | case4 _ _ _ _ _ _ ih => rw [ih, swapRange_size]
  | case5 => rfl

theorem shUp_size (d : Array Nat) (a n : Nat) : (shUp d a n).size = d.size := by
  induction n with
  | zero => rfl
  | succ n ih => rw [shUp]; simp [Sort.swp, ih]

theorem shDn_size (d : Array Nat) (a n : Nat) : (shDn d a n).size = d.size := by
  induction n with
  | zero => rfl
  | succ n ih => rw [shDn]; simp [Sort.swp, ih]

theorem bsc_bd (p : Nat → Bool) (i j : Nat) (h : i ≤ j) : i ≤ bsc p i j ∧ bsc p i j ≤ j := by
  fun_induction bsc p i j with
  | case1 i j h1 h2 ih => have := ih (by omega); omega
  | case2 i j h1 h2 ih => have := ih (by omega); omega
  | case3 i j h1 => omega

section
open Go.Sort
theorem insInner_size (lt : Nat → Nat → Bool) (a j : Nat) (d : Array Nat) : (insInner lt a j d).size = d.size := by
  induction j generalizing d with
  | zero => rfl
  | succ j ih => rw [insInner]; split <;> simp [ih, swp]
theorem insOuter_size (lt : Nat → Nat → Bool) (a b i : Nat) (d : Array Nat) : (insOuter lt a b i d).size = d.size := by
  fun_induction insOuter lt a b i d with
  | case1 i d h ih => rw [ih, insInner_size]
  | case2 => rfl

theorem rotate_size (d : Array Nat) (a m b : Nat) : (rotate d a m b).size = d.size := rotL_size _ _ _ _
theorem symM_size (lt : Nat → Nat → Bool) (f a m b : Nat) (d : Array Nat) : (symM lt f a m b d).size = d.size := by
  induction f generalizing a m b d with
  | zero => rfl
  | succ f ih =>
    rw [symM]
    split
    · exact shUp_size _ _ _
    · split
      · exact shDn_size _ _ _
      · dsimp only
        have h1 : (if symStart lt a m b d < m ∧ m < (a + b) / 2 + m - symStart lt a m b d then rotate d (symStart lt a m b d) m ((a + b) / 2 + m - symStart lt a m b d) else d).size = d.size := by
          split
          · exact rotate_size _ _ _ _
          · rfl
        split <;> split <;> simp only [ih, h1]

theorem insertionSort_size (lt : Nat → Nat → Bool) (d : Array Nat) (a b : Nat) : (insertionSort lt d a b).size = d.size := insOuter_size _ _ _ _ _

theorem stA_size (lt : Nat → Nat → Bool) (n f a : Nat) (d : Array Nat) : (stA lt n f a d).size = d.size := by
  induction f generalizing a d with
  | zero => exact insertionSort_size _ _ _ _
  | succ f ih =>
    rw [stA]
    split
    · rw [ih, insertionSort_size]
    · exact insertionSort_size _ _ _ _
theorem stM_size (lt : Nat → Nat → Bool) (n bs f a : Nat) (d : Array Nat) : (stMg lt n bs f a d).size = d.size := by
  induction f generalizing a d with
  | zero => rfl
  | succ f ih =>
    rw [stMg]
    split
    · rw [ih, symM_size]
    · split
      · exact symM_size _ _ _ _ _ _
      · rfl
theorem stO_size (lt : Nat → Nat → Bool) (n f bs : Nat) (d : Array Nat) : (stO lt n f bs d).size = d.size := by
  induction f generalizing bs d with
  | zero => rfl
  | succ f ih =>
    rw [stO]
    split
    · rw [ih, stM_size]
    · rfl
theorem stableS_size (lt : Nat → Nat → Bool) (d : Array Nat) : (stableS lt d).size = d.size := by
  unfold stableS; rw [stO_size, stA_size]

end

end Lg

/-
  Walk: the insertion sort of numbers of places, by whatever comparison.
-/
namespace Go.Proofs.YtkeppoiomjhkpaaGreatDoor
open Go.RowKit Lg Go.Sort

/-- A row of numbers, each of them the number of a place of the row. -/
def PlsD (w : World) (B : Nat) (d : Array Nat) : Prop :=
  ∃ cs : Array Value, Blk w B cs 3 ∧ d.size ≤ cs.size ∧ ∀ k, k < d.size → d[k]! < d.size ∧ cs[k]? = some (.int .i64 (d[k]! : Nat))

theorem PlsD.lt {w : World} {B : Nat} {d : Array Nat} (h : PlsD w B d) : B < w.heap.size := by obtain ⟨cs, h, _⟩ := h; exact h.lt
theorem PlsD.below {w w' : World} {B : Nat} {d : Array Nat} (h : PlsD w B d) (hb : RowKit.Below w.heap.size w w') : PlsD w' B d := by
  obtain ⟨cs, h1, h2, h3⟩ := h
  exact ⟨cs, h1.below' hb, h2, h3⟩
theorem PlsD.drew {w : World} {B : Nat} {d : Array Nat} (h : PlsD w B d) : PlsD w.drew B d := h.below ((Below.refl _ w).drew)
theorem PlsD.get {w : World} {B : Nat} {d : Array Nat} (h : PlsD w B d) (k : Nat) (hk : k < d.size) : d[k]! < d.size ∧ w.cell? ⟨B, k, none⟩ = some (.int .i64 (d[k]! : Nat)) := by
  obtain ⟨cs, h1, h2, h3⟩ := h
  exact ⟨(h3 k hk).1, (h1.cell k).trans (h3 k hk).2⟩
theorem PlsD.frozen {w : World} {B : Nat} {d : Array Nat} (h : PlsD w B d) (k : Nat) : w.frozen? ⟨B, k, none⟩ = false := by
  obtain ⟨cs, h1, h2, h3⟩ := h
  exact h1.frozen k
theorem swp_get (d : Array Nat) (i j k : Nat) (_hi : i < d.size) (_hj : j < d.size) (hk : k < d.size) : (swp d i j)[k]! = if k = j then d[i]! else if k = i then d[j]! else d[k]! := by
  unfold swp
  have hs : k < ((d.setIfInBounds i d[j]!).setIfInBounds j d[i]!).size := by simpa using hk
  rw [getElem!_pos _ k hs, Array.getElem_setIfInBounds (by simpa using hk)]
  by_cases e : j = k
  · subst e; simp
  · rw [if_neg e, if_neg (fun e' => e e'.symm), Array.getElem_setIfInBounds]
    by_cases e2 : i = k
    · subst e2; simp
    · rw [if_neg e2, if_neg (fun e' => e2 e'.symm), getElem!_pos d k hk]
theorem swp_size (d : Array Nat) (i j : Nat) : (swp d i j).size = d.size := by simp [swp]
theorem PlsD.swap {w : World} {B : Nat} {d : Array Nat} (h : PlsD w B d) (i j : Nat) (hi : i < d.size) (hj : j < d.size) :
    PlsD ((w.setCell ⟨B, i, none⟩ (.int .i64 (d[j]! : Nat))).setCell ⟨B, j, none⟩ (.int .i64 (d[i]! : Nat))).drew B (swp d i j) := by
  obtain ⟨cs, h1, h2, h3⟩ := h
  refine ⟨_, ((h1.setCell i _).setCell j _).drew, by rw [swp_size]; simpa using h2, fun k hk => ?_⟩
  rw [swp_size] at hk ⊢
  rw [swp_get d i j k hi hj hk, Array.getElem?_setIfInBounds]
  by_cases e : j = k
  · subst e
    rw [if_pos rfl, if_pos rfl, if_pos (by simp; omega)]
    exact ⟨(h3 i hi).1, rfl⟩
  · rw [if_neg e, if_neg (fun e' => e e'.symm), Array.getElem?_setIfInBounds]
    by_cases e2 : i = k
    · subst e2
      rw [if_pos rfl, if_pos rfl, if_pos (by omega)]
      exact ⟨(h3 j hj).1, rfl⟩
    · rw [if_neg e2, if_neg (fun e' => e2 e'.symm)]
      exact h3 k hk

/-- A comparison of places, at every world that is as w below n0. -/
def CmpIs (g : Nat) (cb : Array Value) (n0 n : Nat) (cf : Nat → Nat → Int) (w : World) : Prop :=
  ∀ (i j : Nat), i < n → j < n → ∀ W, RowKit.Below n0 w W → Calls Tryz.prog g (#[.int .i64 i, .int .i64 j] ++ cb) W fun e w' => e = .returned (.int .i64 (cf i j)) ∧ RowKit.Below W.heap.size W w'

theorem insInner_step (lt : Nat → Nat → Bool) (a j : Nat) (d : Array Nat) (h : a < j + 1) (hl : lt d[j + 1]! d[j]! = true) : insInner lt a (j + 1) d = insInner lt a j (swp d (j + 1) j) := by
  rw [insInner, if_pos (by simp [hl]; omega)]
theorem insInner_end (lt : Nat → Nat → Bool) (a j : Nat) (d : Array Nat) (h : j + 1 ≤ a ∨ lt d[j + 1]! d[j]! = false) : insInner lt a (j + 1) d = d := by
  rw [insInner, if_neg]
  rcases h with h | h
  · simp; omega
  · simp [h]
theorem insInner_zero (lt : Nat → Nat → Bool) (a j : Nat) (d : Array Nat) (h : j ≤ a) : insInner lt a j d = d := by
  cases j with
  | zero => rfl
  | succ j => exact insInner_end lt a j d (Or.inl h)

set_option maxRecDepth 100000 in
set_option maxHeartbeats 3200000 in
theorem insertion_any (g : Nat) (cb : Array Value) (n0 B cap a b : Nat) (cf : Nat → Nat → Int) (d : Array Nat) (w0 w : World) (eg : ∀ args w, (callFunc g args).run Tryz.prog w = .ok (.enter g args) w) (hcmp : CmpIs g cb n0 d.size cf w0)
    (hP : PlsD w B d) (hB : RowKit.Below n0 w0 w) (hB0 : n0 ≤ B) (h0 : n0 ≤ w0.heap.size) (hab : a ≤ b) (hb : b ≤ d.size) (hn : d.size ≤ 1000000) :
    Calls Tryz.prog 195 #[.slice (some ⟨B, 0, none⟩) d.size cap, .int .i64 a, .int .i64 b, .func (.func g) #[] cb] w fun e w' => e = .returned (.tuple #[]) ∧ PlsD w' B (insertionSort (ltC cf) d a b) ∧ RowKit.Below n0 w0 w' := by
  have HC := Lib.hid hcmp
  clear hcmp
  obtain ⟨n, hnn⟩ : ∃ n, n = d.size := ⟨_, rfl⟩
  rw [← hnn] at hb hn ⊢
  have HN := Lib.hid hnn
  clear hnn
  have hwa : IntKind.i64.wrap ((a : Int) + 1) = (a : Int) + 1 := by rw [IntKind.wrap_i64]; omega
  go_enter Tryz.func195, Tryz.ntmps195
  go_wp2
  clear hwa
  go_loopw [8] (fun i wr => ∃ (k : Nat) (dk : Array Nat), k ≤ b + 1 ∧ a < k ∧ i = .int .i64 k ∧ Hid (dk.size = n) ∧ PlsD wr B dk ∧ RowKit.Below n0 w0 wr ∧ Hid (insOuter (ltC cf) a b k dk = insertionSort (ltC cf) d a b)) (fun i _ => b + 1 - (intOf i).toNat)
  case atStart => exact ⟨a + 1, d, by omega, by omega, by go_num, HN.out.symm, hP, hB, rfl⟩
  case round =>
    obtain ⟨i, di, hi1, hi2, rfl, hsi, hPi, hBi, HO⟩ := hrel
    by_cases hlt : i < b
    · have hltz : (i : Int) < (b : Int) := by omega
      have hwi : IntKind.i64.wrap ((i : Int) + 1) = (i : Int) + 1 := by rw [IntKind.wrap_i64]; omega
      go_wp2
      go_loopw [9] (fun j wr => ∃ (k : Nat) (dk : Array Nat), k ≤ i ∧ a ≤ k ∧ j = .int .i64 k ∧ Hid (dk.size = n) ∧ PlsD wr B dk ∧ RowKit.Below n0 w0 wr ∧ Hid (insInner (ltC cf) a k dk = insInner (ltC cf) a i di)) (fun j _ => (intOf j).toNat)
      case atStart => exact ⟨i, di, by omega, by omega, rfl, hsi, hPi, hBi, rfl⟩
      case round =>
        obtain ⟨j, dj, hj1, hj2, rfl, hsj, hPj, hBj, HI⟩ := hrel
        have hnext : insInner (ltC cf) a j dj = dj → insOuter (ltC cf) a b (i + 1) dj = insertionSort (ltC cf) d a b := fun h => by
          rw [← HO.out, insOuter.eq_def (ltC cf) a b i di, if_pos hlt, ← HI.out, h]
        have HX := Lib.hid hnext
        clear hnext
        by_cases hja : a < j
        · obtain ⟨jp, rfl⟩ : ∃ jp, j = jp + 1 := ⟨j - 1, by omega⟩
          have hwp : IntKind.i64.wrap (jp : Int) = (jp : Int) := by rw [IntKind.wrap_i64]; omega
          have jz : (jp : Int) + 1 < (n : Int) := by omega
          have jz1 : (jp : Int) < (n : Int) := by omega
          have hjaz' : (a : Int) < (jp : Int) + 1 := by omega
          have p0 : (0 : Int) ≤ (jp : Int) + 1 := by omega
          have e0 : ((jp : Int) + 1).toNat = jp + 1 := by omega
          have hg1 := hPj.get (jp + 1) (by rw [hsj.out]; omega)
          have hg2 := hPj.get jp (by rw [hsj.out]; omega)
          obtain ⟨x, hx⟩ : ∃ x, x = dj[jp + 1]! := ⟨_, rfl⟩
          obtain ⟨y, hy⟩ : ∃ y, y = dj[jp]! := ⟨_, rfl⟩
          rw [← hx] at hg1
          rw [← hy] at hg2
          obtain ⟨hxn, cj⟩ := hg1
          obtain ⟨hyn, cp⟩ := hg2
          rw [hsj.out, HN.out] at hxn hyn
          have Hx := Lib.hid hx; clear hx
          have Hy := Lib.hid hy; clear hy
          have hc := HC.out x y hxn hyn
          have Hxn := Lib.hid hxn; clear hxn
          have Hyn := Lib.hid hyn; clear hyn
          obtain ⟨v, hv⟩ : ∃ v, v = cf x y := ⟨_, rfl⟩
          rw [← hv] at hc
          have Hv := Lib.hid hv; clear hv
          have hB1 := hBj.drew
          have hPd := hPj.drew
          go_wp2_with (fail)
          go_still_tail 14, (by kernel_rfl)
          change wpList _ _ _ _ _ wr.drew
          clear cj cp
          generalize wr.drew = wd at *
          go_wp2_with (fail)
          refine (hc _ hB1).mono ?_
          clear hc
          rintro e w3 ⟨rfl, hB3⟩
          have hP3 := hPd.below hB3
          have hb3 : RowKit.Below n0 w0 w3 := hB1.trans (hB3.mono (by have := hB1.size; omega))
          clear hPd hPj hB1
          by_cases hv : v < 0
          · have hg1 := hP3.get (jp + 1) (by rw [hsj.out]; omega)
            have hg2 := hP3.get jp (by rw [hsj.out]; omega)
            rw [← Hx.out] at hg1
            rw [← Hy.out] at hg2
            have cj := hg1.2
            have cp := hg2.2
            clear hg1 hg2
            have fj := hP3.frozen (jp + 1)
            have fp := hP3.frozen jp
            obtain ⟨j1, hj1⟩ : ∃ j1, j1 = jp + 1 := ⟨_, rfl⟩
            rw [← hj1] at cj fj e0
            have J1 := Lib.hid hj1
            clear hj1
            go_wp2_with (fail)
            have HP3 := Lib.hid hP3
            clear hP3
            go_big_region
            all_goals go_wp2
            go_roundw
            case rel =>
              refine ⟨jp, swp dj (jp + 1) jp, by omega, by omega, by first | rfl | go_num, (by rw [swp_size]; exact hsj.out : Hid _), ?_, ?_, ?_⟩
              · have h := HP3.out.swap (jp + 1) jp (by rw [hsj.out]; omega) (by rw [hsj.out]; omega)
                rw [← Hx.out, ← Hy.out, ← J1.out] at h
                exact J1.out ▸ h
              · exact ((hb3.setCell (p := ⟨B, j1, none⟩) hB0 _).setCell (p := ⟨B, jp, none⟩) hB0 _).drew
              · show insInner (ltC cf) a jp (swp dj (jp + 1) jp) = _
                rw [← HI.out]
                refine (insInner_step (ltC cf) a jp dj (by omega) ?_).symm
                rw [← Hx.out, ← Hy.out]
                unfold ltC
                rw [← Hv.out]
                exact decide_eq_true hv
            case measure => simp [intOf]
          · go_wp2
            go_roundw
            case rel =>
              refine ⟨i + 1, dj, by omega, by omega, by go_num, hsj, hP3, hb3, HX.out (insInner_end (ltC cf) a jp dj (Or.inr ?_))⟩
              rw [← Hx.out, ← Hy.out]
              unfold ltC
              rw [← Hv.out]
              exact decide_eq_false (by omega)
            case measure => simp [intOf]; omega
        · have hjaz : ¬ ((a : Int) < (j : Int)) := by omega
          go_wp2_with (fail)
          go_big_region
          all_goals go_wp2
          go_roundw
          case rel => exact ⟨i + 1, dj, by omega, by omega, by go_num, hsj, hPj.drew, hBj.drew, HX.out (insInner_zero (ltC cf) a j dj (by omega))⟩
          case measure => simp [intOf]; omega
    · have hltz : ¬ ((i : Int) < (b : Int)) := by omega
      go_wp2
      go_end0
      have h := HO.out
      rw [insOuter.eq_def, if_neg hlt] at h
      rw [← h]
      exact ⟨rfl, hPi, hBi⟩

end Go.Proofs.YtkeppoiomjhkpaaGreatDoor

/-
  Walks: the exchange of two ranges; the rotation of two blocks.
-/
namespace Go.Proofs.YtkeppoiomjhkpaaGreatDoor
open Go.RowKit Lg Go.Sort

set_option maxRecDepth 100000 in
set_option maxHeartbeats 3200000 in
theorem swapRange_any (n0 B cap a b m : Nat) (d : Array Nat) (v : Value) (w0 w : World) (hP : PlsD w B d) (hB : RowKit.Below n0 w0 w) (hB0 : n0 ≤ B) (ha : a + m ≤ b) (hb : b + m ≤ d.size) (hn : d.size ≤ 1000000) :
    Calls Tryz.prog 214 #[.slice (some ⟨B, 0, none⟩) d.size cap, .int .i64 a, .int .i64 b, .int .i64 m, v] w fun e w' => e = .returned (.tuple #[]) ∧ PlsD w' B (swapRange d a b m) ∧ RowKit.Below n0 w0 w' := by
  obtain ⟨n, hnn⟩ : ∃ n, n = d.size := ⟨_, rfl⟩
  rw [← hnn] at hb hn ⊢
  have HN := Lib.hid hnn
  clear hnn
  go_enter Tryz.func214, Tryz.ntmps214
  go_wp2
  go_loopw [10] (fun i wr => ∃ k : Nat, k ≤ m ∧ i = .int .i64 k ∧ PlsD wr B (swapRange d a b k) ∧ RowKit.Below n0 w0 wr) (fun i _ => m - (intOf i).toNat)
  case atStart => exact ⟨0, Nat.zero_le _, rfl, hP, hB⟩
  case round =>
    obtain ⟨k, hk, rfl, hPk, hBk⟩ := hrel
    by_cases hlt : k < m
    · have hltz : (k : Int) < (m : Int) := by omega
      have hsz : (swapRange d a b k).size = n := by rw [swapRange_size, HN.out]
      obtain ⟨dk, hdk⟩ : ∃ dk, dk = swapRange d a b k := ⟨_, rfl⟩
      rw [← hdk] at hPk hsz
      have Hsz := Lib.hid hsz; clear hsz
      have Hdk := Lib.hid hdk; clear hdk
      obtain ⟨p, hp⟩ : ∃ p, p = a + k := ⟨_, rfl⟩
      obtain ⟨q, hq⟩ : ∃ q, q = b + k := ⟨_, rfl⟩
      have hwp : IntKind.i64.wrap ((a : Int) + (k : Int)) = (a : Int) + (k : Int) := by rw [IntKind.wrap_i64]; omega
      have hwq : IntKind.i64.wrap ((b : Int) + (k : Int)) = (b : Int) + (k : Int) := by rw [IntKind.wrap_i64]; omega
      have ep : ((a : Int) + (k : Int)).toNat = p := by omega
      have eq : ((b : Int) + (k : Int)).toNat = q := by omega
      have p0 : (0 : Int) ≤ (a : Int) + (k : Int) := by omega
      have q0 : (0 : Int) ≤ (b : Int) + (k : Int) := by omega
      have p1 : (a : Int) + (k : Int) < (n : Int) := by omega
      have q1 : (b : Int) + (k : Int) < (n : Int) := by omega
      have hpn : p < n := by omega
      have hqn : q < n := by omega
      have hpq : ¬ p = q := by omega
      have hqp : ¬ q = p := by omega
      have Hp := Lib.hid hp; clear hp
      have Hq := Lib.hid hq; clear hq
      have hg1 := hPk.get p (by rw [Hsz.out]; exact hpn)
      have hg2 := hPk.get q (by rw [Hsz.out]; exact hqn)
      obtain ⟨x, hx⟩ : ∃ x, x = dk[p]! := ⟨_, rfl⟩
      obtain ⟨y, hy⟩ : ∃ y, y = dk[q]! := ⟨_, rfl⟩
      rw [← hx] at hg1
      rw [← hy] at hg2
      have cp := hg1.2
      have cq := hg2.2
      clear hg1 hg2
      have Hx := Lib.hid hx; clear hx
      have Hy := Lib.hid hy; clear hy
      have fp := hPk.frozen p
      have fq := hPk.frozen q
      have HPk := Lib.hid hPk; clear hPk
      go_wp2_with (fail)
      go_big_region
      clear cp cq fp fq hwp hwq ep eq p0 q0 p1 q1
      all_goals go_wp2
      go_roundw
      case rel =>
        refine ⟨k + 1, by omega, by go_num, ?_, ?_⟩
        · have h := HPk.out.swap p q (by rw [Hsz.out]; exact hpn) (by rw [Hsz.out]; exact hqn)
          rw [← Hx.out, ← Hy.out] at h
          rw [swapRange, ← Hdk.out, ← Hp.out, ← Hq.out]
          exact h
        · exact ((hBk.setCell (p := ⟨B, p, none⟩) hB0 _).setCell (p := ⟨B, q, none⟩) hB0 _).drew
      case measure => simp [intOf]; omega
    · obtain rfl : k = m := by omega
      go_wp2
      go_end0
      exact ⟨rfl, hPk, hBk⟩

set_option maxRecDepth 100000 in
set_option maxHeartbeats 3200000 in
theorem rotate_any (n0 B cap a m b : Nat) (d : Array Nat) (v : Value) (w0 w : World) (hP : PlsD w B d) (hB : RowKit.Below n0 w0 w) (hB0 : n0 ≤ B) (ha : a < m) (hm : m < b) (hb : b ≤ d.size) (hn : d.size ≤ 1000000) :
    Calls Tryz.prog 209 #[.slice (some ⟨B, 0, none⟩) d.size cap, .int .i64 a, .int .i64 m, .int .i64 b, v] w fun e w' => e = .returned (.tuple #[]) ∧ PlsD w' B (rotate d a m b) ∧ RowKit.Below n0 w0 w' := by
  obtain ⟨n, hnn⟩ : ∃ n, n = d.size := ⟨_, rfl⟩
  rw [← hnn] at hb hn ⊢
  have HN := Lib.hid hnn
  clear hnn
  have hwi : IntKind.i64.wrap ((m : Int) - (a : Int)) = (m : Int) - (a : Int) := by rw [IntKind.wrap_i64]; omega
  have hwj : IntKind.i64.wrap ((b : Int) - (m : Int)) = (b : Int) - (m : Int) := by rw [IntKind.wrap_i64]; omega
  go_enter Tryz.func209, Tryz.ntmps209
  go_wp2
  clear hwi hwj
  go_loopw [10, 11] (fun i j wr => ∃ (p q : Nat) (dk : Array Nat), 0 < p ∧ p ≤ m ∧ 0 < q ∧ m + q ≤ n ∧ i = .int .i64 p ∧ j = .int .i64 q ∧ Hid (dk.size = n) ∧ PlsD wr B dk ∧ RowKit.Below n0 w0 wr ∧ Hid (rotL m p q dk = rotate d a m b)) (fun i j _ => (intOf i).toNat + (intOf j).toNat)
  case atStart => exact ⟨m - a, b - m, d, by omega, by omega, by omega, by omega, by go_num, by go_num, HN.out.symm, hP, hB, rfl⟩
  case round =>
    obtain ⟨p, q, dk, hp0, hpm, hq0, hqn, rfl, rfl, Hs, hPk, hBk, HR⟩ := hrel
    have hw1 : IntKind.i64.wrap ((m : Int) - (p : Int)) = (m : Int) - (p : Int) := by rw [IntKind.wrap_i64]; omega
    have hmp : (m : Int) - (p : Int) = ((m - p : Nat) : Int) := by omega
    have hs := Hs.out
    have hR := HR.out
    rw [rotL.eq_def] at hR
    by_cases he : p = q
    · subst he
      rw [if_pos rfl] at hR
      have HR2 := Lib.hid hR; clear hR
      have hc := swapRange_any n0 B cap (m - p) m p dk v w0 wr hPk hBk hB0 (by omega) (by omega) (by omega)
      rw [hs, ← hmp] at hc
      clear hs hmp
      have hne : ((p : Int) != (p : Int)) = false := by simp
      go_wp2_with (fail)
      refine hc.mono ?_
      clear hc
      rintro e w2 ⟨rfl, hP2, hB2⟩
      go_wp2
      go_end0
      rw [HR2.out] at hP2
      exact ⟨rfl, hP2, hB2⟩
    · rw [if_neg he] at hR
      have hne : ((p : Int) != (q : Int)) = true := by simp; omega
      have hne2 : ¬ (p : Int) = (q : Int) := by omega
      by_cases hlt : q < p
      · rw [if_pos hlt, dif_pos hq0] at hR
        have HR2 := Lib.hid hR; clear hR
        have hw2 : IntKind.i64.wrap ((p : Int) - (q : Int)) = (p : Int) - (q : Int) := by rw [IntKind.wrap_i64]; omega
        have hltz : (q : Int) < (p : Int) := by omega
        have hc := swapRange_any n0 B cap (m - p) m q dk v w0 wr hPk hBk hB0 (by omega) (by omega) (by omega)
        rw [hs, ← hmp] at hc
        clear hs hmp
        go_wp2_with (fail)
        refine hc.mono ?_
        clear hc
        rintro e w2 ⟨rfl, hP2, hB2⟩
        go_wp2
        go_roundw
        case rel =>
          exact ⟨p - q, q, swapRange dk (m - p) m q, by omega, by omega, hq0, hqn, by go_num, rfl, (by rw [swapRange_size]; exact Hs.out : Hid _), hP2, hB2, HR2⟩
        case measure => simp [intOf]; omega
      · rw [if_neg hlt, dif_pos hp0] at hR
        have HR2 := Lib.hid hR; clear hR
        have hw2 : IntKind.i64.wrap ((q : Int) - (p : Int)) = (q : Int) - (p : Int) := by rw [IntKind.wrap_i64]; omega
        have hw3 : IntKind.i64.wrap ((m : Int) + (q : Int)) = (m : Int) + (q : Int) := by rw [IntKind.wrap_i64]; omega
        have hw4 : IntKind.i64.wrap ((m : Int) + (q : Int) - (p : Int)) = (m : Int) + (q : Int) - (p : Int) := by rw [IntKind.wrap_i64]; omega
        have hltz : ¬ (q : Int) < (p : Int) := by omega
        have hc := swapRange_any n0 B cap (m - p) (m + q - p) p dk v w0 wr hPk hBk hB0 (by omega) (by omega) (by omega)
        have hmq : (m : Int) + (q : Int) - (p : Int) = ((m + q - p : Nat) : Int) := by omega
        rw [hs, ← hmp, ← hmq] at hc
        clear hs hmp hmq
        go_wp2_with (fail)
        refine hc.mono ?_
        clear hc
        rintro e w2 ⟨rfl, hP2, hB2⟩
        go_wp2
        go_roundw
        case rel =>
          exact ⟨p, q - p, swapRange dk (m - p) (m + q - p) p, hp0, hpm, by omega, by omega, rfl, by go_num, (by rw [swapRange_size]; exact Hs.out : Hid _), hP2, hB2, HR2⟩
        case measure => simp [intOf]; omega

end Go.Proofs.YtkeppoiomjhkpaaGreatDoor

/-
  Walk: the merge of two sorted ranges in place (symMerge).
-/
namespace Go.Proofs.YtkeppoiomjhkpaaGreatDoor
open Go.RowKit Lg Go.Sort

theorem bsc_go (p : Nat → Bool) (i j : Nat) (h : i < j) : bsc p i j = if p ((i + j) / 2) then bsc p ((i + j) / 2 + 1) j else bsc p i ((i + j) / 2) := by
  rw [bsc.eq_def, if_pos h]
theorem bsc_end (p : Nat → Bool) (i : Nat) : bsc p i i = i := by
  rw [bsc.eq_def, if_neg (by omega)]

set_option maxRecDepth 100000 in
set_option maxHeartbeats 3200000 in
theorem sym1_any (g : Nat) (cb : Array Value) (n0 B cap a m b : Nat) (cf : Nat → Nat → Int) (d : Array Nat) (w0 w : World) (eg : ∀ args w, (callFunc g args).run Tryz.prog w = .ok (.enter g args) w) (hcmp : CmpIs g cb n0 d.size cf w0)
    (hP : PlsD w B d) (hB : RowKit.Below n0 w0 w) (hB0 : n0 ≤ B) (h0 : n0 ≤ w0.heap.size) (h1 : m - a = 1) (hmb : m < b) (hb : b ≤ d.size) (hn : d.size ≤ 1000000) :
    Calls Tryz.prog 196 #[.slice (some ⟨B, 0, none⟩) d.size cap, .int .i64 a, .int .i64 m, .int .i64 b, .func (.func g) #[] cb] w fun e w' => e = .returned (.tuple #[]) ∧ PlsD w' B (shUp d a (bsc (fun h => ltC cf d[h]! d[a]!) m b - 1 - a)) ∧ RowKit.Below n0 w0 w' := by
  have HC := Lib.hid hcmp
  clear hcmp
  obtain ⟨n, hnn⟩ : ∃ n, n = d.size := ⟨_, rfl⟩
  rw [← hnn] at hb hn ⊢
  have HN := Lib.hid hnn
  clear hnn
  obtain ⟨pr, hpr⟩ : ∃ pr : Nat → Bool, pr = fun h => ltC cf d[h]! d[a]! := ⟨_, rfl⟩
  rw [← hpr]
  have Hpr := Lib.hid hpr; clear hpr
  have hwm : IntKind.i64.wrap ((m : Int) - (a : Int)) = (m : Int) - (a : Int) := by rw [IntKind.wrap_i64]; omega
  have ht1 : ((m : Int) - (a : Int) == 1) = true := by simp; omega
  have ham : a < m := by omega
  have H1 := Lib.hid h1; clear h1
  go_enter Tryz.func196, Tryz.ntmps196
  go_wp2
  clear hwm ht1
  go_loopw [10, 11] (fun i j wr => ∃ p q : Nat, m ≤ p ∧ p ≤ q ∧ q ≤ b ∧ i = .int .i64 p ∧ j = .int .i64 q ∧ PlsD wr B d ∧ RowKit.Below n0 w0 wr ∧ Hid (bsc pr p q = bsc pr m b)) (fun i j _ => (intOf j).toNat - (intOf i).toNat)
  case atStart => exact ⟨m, b, Nat.le_refl _, by omega, Nat.le_refl _, rfl, rfl, hP, hB, rfl⟩
  case round =>
    obtain ⟨p, q, hp1, hp2, hp3, rfl, rfl, hPr, hBr, HR⟩ := hrel
    by_cases hlt : p < q
    · have hltz : (p : Int) < (q : Int) := by omega
      obtain ⟨h, hh⟩ : ∃ h, h = (p + q) / 2 := ⟨_, rfl⟩
      have hR := HR.out
      rw [bsc_go pr p q hlt, ← hh] at hR
      have hz : ((p : Int) + (q : Int)) / 2 = (h : Int) := by omega
      have hhn : h < n := by omega
      have han : a < n := by omega
      have hhz : (h : Int) < (n : Int) := by omega
      have haz : (a : Int) < (n : Int) := by omega
      have hb1 : p ≤ h := by omega
      have hb2 : h < q := by omega
      have hwh : IntKind.i64.wrap ((h : Int) + 1) = (h : Int) + 1 := by rw [IntKind.wrap_i64]; omega
      have Hh := Lib.hid hh; clear hh
      have HR2 := Lib.hid hR; clear hR
      have hg1 := hPr.get h (by rw [← HN.out]; exact hhn)
      have hg2 := hPr.get a (by rw [← HN.out]; exact han)
      obtain ⟨x, hx⟩ : ∃ x, x = d[h]! := ⟨_, rfl⟩
      obtain ⟨y, hy⟩ : ∃ y, y = d[a]! := ⟨_, rfl⟩
      rw [← hx] at hg1
      rw [← hy] at hg2
      obtain ⟨hxn, cj⟩ := hg1
      obtain ⟨hyn, cp⟩ := hg2
      have hpv : pr h = decide (cf x y < 0) := by rw [Hpr.out, hx, hy]; rfl
      have Hpv := Lib.hid hpv; clear hpv
      clear hx hy
      have hc := HC.out x y hxn hyn
      clear hxn hyn
      obtain ⟨v, hv⟩ : ∃ v, v = cf x y := ⟨_, rfl⟩
      rw [← hv] at hc Hpv
      clear hv
      have hB1 := hBr.drew
      have hPd := hPr.drew
      go_wp2_with (fail)
      go_still_tail 9, (by kernel_rfl)
      change wpList _ _ _ _ _ wr.drew
      clear cj cp
      generalize wr.drew = wd at *
      go_wp2_with (fail)
      refine (hc _ hB1).mono ?_
      clear hc
      rintro e w3 ⟨rfl, hB3⟩
      have hP3 := hPd.below hB3
      have hb3 : RowKit.Below n0 w0 w3 := hB1.trans (hB3.mono (by have := hB1.size; omega))
      clear hPd hPr hB1
      by_cases hv : v < 0
      · have e := HR2.out
        rw [Hpv.out, decide_eq_true hv, if_pos rfl] at e
        have HR3 := Lib.hid e; clear e
        go_wp2
        go_roundw
        case rel => exact ⟨h + 1, q, by omega, by omega, hp3, by go_num, rfl, hP3, hb3, HR3⟩
        case measure => simp [intOf]; omega
      · have e := HR2.out
        rw [Hpv.out, decide_eq_false hv, if_neg (by simp)] at e
        have HR3 := Lib.hid e; clear e
        go_wp2
        go_roundw
        case rel => exact ⟨p, h, by omega, by omega, by omega, rfl, by first | rfl | go_num, hP3, hb3, HR3⟩
        case measure => simp [intOf]; omega
    · obtain rfl : p = q := by omega
      have hs := HR.out
      rw [bsc_end] at hs
      have Hs := Lib.hid hs
      clear hs HR hlt
      have hp0 : a + 1 ≤ p := by omega
      go_wp2
      go_loopw [13] (fun i wr => ∃ k : Nat, a ≤ k ∧ k ≤ p - 1 ∧ i = .int .i64 k ∧ PlsD wr B (shUp d a (k - a)) ∧ RowKit.Below n0 w0 wr) (fun i _ => p - (intOf i).toNat)
      case atStart => exact ⟨a, Nat.le_refl _, by omega, rfl, by rw [Nat.sub_self]; exact hPr, hBr⟩
      case round =>
        obtain ⟨k, hk1, hk2, rfl, hPk, hBk⟩ := hrel
        have hwp : IntKind.i64.wrap ((p : Int) - 1) = (p : Int) - 1 := by rw [IntKind.wrap_i64]; omega
        by_cases hlt : k < p - 1
        · have hltz : (k : Int) < (p : Int) - 1 := by omega
          have hwk : IntKind.i64.wrap ((k : Int) + 1) = (k : Int) + 1 := by rw [IntKind.wrap_i64]; omega
          obtain ⟨k1, hk⟩ : ∃ k1, k1 = k + 1 := ⟨_, rfl⟩
          have e1 : ((k : Int) + 1).toNat = k1 := by omega
          have p0 : (0 : Int) ≤ (k : Int) + 1 := by omega
          have p1 : (k : Int) + 1 < (n : Int) := by omega
          have p2 : (k : Int) < (n : Int) := by omega
          have hkn : k < n := by omega
          have hk1n : k1 < n := by omega
          have hne : ¬ k = k1 := by omega
          have hne2 : ¬ k1 = k := by omega
          have Hk := Lib.hid hk; clear hk
          obtain ⟨dk, hdk⟩ : ∃ dk, dk = shUp d a (k - a) := ⟨_, rfl⟩
          have hsz : dk.size = n := by rw [hdk, shUp_size, HN.out]
          rw [← hdk] at hPk
          have Hsz := Lib.hid hsz; clear hsz
          have Hdk := Lib.hid hdk; clear hdk
          have hg1 := hPk.get k (by rw [Hsz.out]; exact hkn)
          have hg2 := hPk.get k1 (by rw [Hsz.out]; exact hk1n)
          obtain ⟨x, hx⟩ : ∃ x, x = dk[k]! := ⟨_, rfl⟩
          obtain ⟨y, hy⟩ : ∃ y, y = dk[k1]! := ⟨_, rfl⟩
          rw [← hx] at hg1
          rw [← hy] at hg2
          have cp := hg1.2
          have cq := hg2.2
          clear hg1 hg2
          have Hx := Lib.hid hx; clear hx
          have Hy := Lib.hid hy; clear hy
          have fp := hPk.frozen k
          have fq := hPk.frozen k1
          have HPk := Lib.hid hPk; clear hPk
          go_wp2_with (fail)
          go_big_region
          clear cp cq fp fq e1 p0 p1 p2
          all_goals go_wp2
          go_roundw
          case rel =>
            refine ⟨k + 1, by omega, by omega, by go_num, ?_, ?_⟩
            · have h := HPk.out.swap k k1 (by rw [Hsz.out]; exact hkn) (by rw [Hsz.out]; exact hk1n)
              rw [← Hx.out, ← Hy.out] at h
              have e : shUp d a (k + 1 - a) = swp dk k k1 := by
                rw [show k + 1 - a = (k - a) + 1 from by omega, shUp, ← Hdk.out, Hk.out, show a + (k - a) = k from by omega]
              rw [e]
              exact h
            · exact ((hBk.setCell (p := ⟨B, k, none⟩) hB0 _).setCell (p := ⟨B, k1, none⟩) hB0 _).drew
          case measure => simp [intOf]; omega
        · have hltz : ¬ (k : Int) < (p : Int) - 1 := by omega
          have e : k = p - 1 := by omega
          have He := Lib.hid e
          clear e
          go_wp2
          rw [He.out, Hs.out] at hPk
          refine bodyPost_ret (results_none rfl _ _ _) rfl ⟨rfl, hPk, hBk⟩

set_option maxRecDepth 100000 in
set_option maxHeartbeats 3200000 in
theorem sym2_any (g : Nat) (cb : Array Value) (n0 B cap a m b : Nat) (cf : Nat → Nat → Int) (d : Array Nat) (w0 w : World) (eg : ∀ args w, (callFunc g args).run Tryz.prog w = .ok (.enter g args) w) (hcmp : CmpIs g cb n0 d.size cf w0)
    (hP : PlsD w B d) (hB : RowKit.Below n0 w0 w) (hB0 : n0 ≤ B) (h0 : n0 ≤ w0.heap.size) (ham : a < m) (h1 : ¬ m - a = 1) (h2 : b - m = 1) (hb : b ≤ d.size) (hn : d.size ≤ 1000000) :
    Calls Tryz.prog 196 #[.slice (some ⟨B, 0, none⟩) d.size cap, .int .i64 a, .int .i64 m, .int .i64 b, .func (.func g) #[] cb] w fun e w' => e = .returned (.tuple #[]) ∧ PlsD w' B (shDn d m (m - bsc (fun h => !ltC cf d[m]! d[h]!) a m)) ∧ RowKit.Below n0 w0 w' := by
  have HC := Lib.hid hcmp
  clear hcmp
  obtain ⟨n, hnn⟩ : ∃ n, n = d.size := ⟨_, rfl⟩
  rw [← hnn] at hb hn ⊢
  have HN := Lib.hid hnn
  clear hnn
  obtain ⟨pr, hpr⟩ : ∃ pr : Nat → Bool, pr = fun h => !ltC cf d[m]! d[h]! := ⟨_, rfl⟩
  rw [← hpr]
  have Hpr := Lib.hid hpr; clear hpr
  have hwm : IntKind.i64.wrap ((m : Int) - (a : Int)) = (m : Int) - (a : Int) := by rw [IntKind.wrap_i64]; omega
  have hwb : IntKind.i64.wrap ((b : Int) - (m : Int)) = (b : Int) - (m : Int) := by rw [IntKind.wrap_i64]; omega
  have ht1 : ((m : Int) - (a : Int) == 1) = false := by simp; omega
  have ht2 : ((b : Int) - (m : Int) == 1) = true := by simp; omega
  have hmn : m < n := by omega
  have H1 := Lib.hid h1; clear h1
  have H2 := Lib.hid h2; clear h2
  go_enter Tryz.func196, Tryz.ntmps196
  go_wp2
  clear hwm ht1 hwb ht2
  go_loopw [14, 15] (fun i j wr => ∃ p q : Nat, a ≤ p ∧ p ≤ q ∧ q ≤ m ∧ i = .int .i64 p ∧ j = .int .i64 q ∧ PlsD wr B d ∧ RowKit.Below n0 w0 wr ∧ Hid (bsc pr p q = bsc pr a m)) (fun i j _ => (intOf j).toNat - (intOf i).toNat)
  case atStart => exact ⟨a, m, Nat.le_refl _, by omega, Nat.le_refl _, rfl, rfl, hP, hB, rfl⟩
  case round =>
    obtain ⟨p, q, hp1, hp2, hp3, rfl, rfl, hPr, hBr, HR⟩ := hrel
    by_cases hlt : p < q
    · have hltz : (p : Int) < (q : Int) := by omega
      obtain ⟨h, hh⟩ : ∃ h, h = (p + q) / 2 := ⟨_, rfl⟩
      have hR := HR.out
      rw [bsc_go pr p q hlt, ← hh] at hR
      have hz : ((p : Int) + (q : Int)) / 2 = (h : Int) := by omega
      have hhn : h < n := by omega
      have hhz : (h : Int) < (n : Int) := by omega
      have hmz : (m : Int) < (n : Int) := by omega
      have hb1 : p ≤ h := by omega
      have hb2 : h < q := by omega
      have hwh : IntKind.i64.wrap ((h : Int) + 1) = (h : Int) + 1 := by rw [IntKind.wrap_i64]; omega
      have Hh := Lib.hid hh; clear hh
      have HR2 := Lib.hid hR; clear hR
      have hg1 := hPr.get m (by rw [← HN.out]; exact hmn)
      have hg2 := hPr.get h (by rw [← HN.out]; exact hhn)
      obtain ⟨x, hx⟩ : ∃ x, x = d[m]! := ⟨_, rfl⟩
      obtain ⟨y, hy⟩ : ∃ y, y = d[h]! := ⟨_, rfl⟩
      rw [← hx] at hg1
      rw [← hy] at hg2
      obtain ⟨hxn, cj⟩ := hg1
      obtain ⟨hyn, cp⟩ := hg2
      have hpv : pr h = !decide (cf x y < 0) := by rw [Hpr.out, hx, hy]; rfl
      have Hpv := Lib.hid hpv; clear hpv
      clear hx hy
      have hc := HC.out x y hxn hyn
      clear hxn hyn
      obtain ⟨v, hv⟩ : ∃ v, v = cf x y := ⟨_, rfl⟩
      rw [← hv] at hc Hpv
      clear hv
      have hB1 := hBr.drew
      have hPd := hPr.drew
      go_wp2_with (fail)
      go_still_tail 9, (by kernel_rfl)
      change wpList _ _ _ _ _ wr.drew
      clear cj cp
      generalize wr.drew = wd at *
      go_wp2_with (fail)
      refine (hc _ hB1).mono ?_
      clear hc
      rintro e w3 ⟨rfl, hB3⟩
      have hP3 := hPd.below hB3
      have hb3 : RowKit.Below n0 w0 w3 := hB1.trans (hB3.mono (by have := hB1.size; omega))
      clear hPd hPr hB1
      by_cases hv : v < 0
      · have e := HR2.out
        rw [Hpv.out, decide_eq_true hv, if_neg (by simp)] at e
        have HR3 := Lib.hid e; clear e
        have hvd : decide (v < 0) = true := decide_eq_true hv
        go_wp2
        go_roundw
        case rel => exact ⟨p, h, by omega, by omega, by omega, rfl, by first | rfl | go_num, hP3, hb3, HR3⟩
        case measure => simp [intOf]; omega
      · have e := HR2.out
        rw [Hpv.out, decide_eq_false hv, if_pos (by simp : (!false) = true)] at e
        have HR3 := Lib.hid e; clear e
        have hvd : decide (v < 0) = false := decide_eq_false hv
        go_wp2
        go_roundw
        case rel => exact ⟨h + 1, q, by omega, by omega, hp3, by go_num, rfl, hP3, hb3, HR3⟩
        case measure => simp [intOf]; omega
    · obtain rfl : p = q := by omega
      have hs := HR.out
      rw [bsc_end] at hs
      have Hs := Lib.hid hs
      clear hs HR hlt
      go_wp2
      go_loopw [17] (fun i wr => ∃ k : Nat, p ≤ k ∧ k ≤ m ∧ i = .int .i64 k ∧ PlsD wr B (shDn d m (m - k)) ∧ RowKit.Below n0 w0 wr) (fun i _ => (intOf i).toNat)
      case atStart => exact ⟨m, by omega, Nat.le_refl _, rfl, by rw [Nat.sub_self]; exact hPr, hBr⟩
      case round =>
        obtain ⟨k, hk1, hk2, rfl, hPk, hBk⟩ := hrel
        by_cases hlt : p < k
        · have hltz : (p : Int) < (k : Int) := by omega
          have hwk : IntKind.i64.wrap ((k : Int) - 1) = (k : Int) - 1 := by rw [IntKind.wrap_i64]; omega
          obtain ⟨k1, hk⟩ : ∃ k1, k1 = k - 1 := ⟨_, rfl⟩
          have e1 : ((k : Int) - 1).toNat = k1 := by omega
          have p0 : (0 : Int) ≤ (k : Int) - 1 := by omega
          have p00 : (1 : Int) ≤ (k : Int) := by omega
          have p1 : (k : Int) - 1 < (n : Int) := by omega
          have p2 : (k : Int) < (n : Int) := by omega
          have hkn : k < n := by omega
          have hk1n : k1 < n := by omega
          have hne : ¬ k = k1 := by omega
          have hne2 : ¬ k1 = k := by omega
          have Hk := Lib.hid hk; clear hk
          obtain ⟨dk, hdk⟩ : ∃ dk, dk = shDn d m (m - k) := ⟨_, rfl⟩
          have hsz : dk.size = n := by rw [hdk, shDn_size, HN.out]
          rw [← hdk] at hPk
          have Hsz := Lib.hid hsz; clear hsz
          have Hdk := Lib.hid hdk; clear hdk
          have hg1 := hPk.get k (by rw [Hsz.out]; exact hkn)
          have hg2 := hPk.get k1 (by rw [Hsz.out]; exact hk1n)
          obtain ⟨x, hx⟩ : ∃ x, x = dk[k]! := ⟨_, rfl⟩
          obtain ⟨y, hy⟩ : ∃ y, y = dk[k1]! := ⟨_, rfl⟩
          rw [← hx] at hg1
          rw [← hy] at hg2
          have cp := hg1.2
          have cq := hg2.2
          clear hg1 hg2
          have Hx := Lib.hid hx; clear hx
          have Hy := Lib.hid hy; clear hy
          have fp := hPk.frozen k
          have fq := hPk.frozen k1
          have HPk := Lib.hid hPk; clear hPk
          go_wp2_with (fail)
          go_big_region
          clear cp cq fp fq e1 p0 p1 p2
          all_goals go_wp2
          go_roundw
          case rel =>
            refine ⟨k - 1, by omega, by omega, by first | go_num | (congr 1; omega), ?_, ?_⟩
            · have h := HPk.out.swap k k1 (by rw [Hsz.out]; exact hkn) (by rw [Hsz.out]; exact hk1n)
              rw [← Hx.out, ← Hy.out] at h
              have e : shDn d m (m - (k - 1)) = swp dk k k1 := by
                rw [show m - (k - 1) = (m - k) + 1 from by omega, shDn, ← Hdk.out, Hk.out, show m - (m - k) = k from by omega]
              rw [e]
              exact h
            · exact ((hBk.setCell (p := ⟨B, k, none⟩) hB0 _).setCell (p := ⟨B, k1, none⟩) hB0 _).drew
          case measure => simp [intOf]; omega
        · obtain rfl : k = p := by omega
          go_wp2
          rw [Hs.out] at hPk
          refine bodyPost_ret (results_none rfl _ _ _) rfl ⟨rfl, hPk, hBk⟩

end Go.Proofs.YtkeppoiomjhkpaaGreatDoor
