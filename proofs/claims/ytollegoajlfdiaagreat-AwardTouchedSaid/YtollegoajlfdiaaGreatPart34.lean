import Derived.Test.YtollegoajlfdiaaGreatPart33
import Derived.Test.YtollegoajlfdiaaGreatPart18
import Derived.Deep.Onto
import Derived.Test.YtollegoajlfdiaaGreatPart20
import Derived.Test.YtollegoajlfdiaaGreatPart17
/-
  Walks: the reference's rate in force.
-/
namespace Go.Proofs.YtollegoajlfdiaaGreat
open Go.RowKit Lg Go.Sort Go.Shelf

set_option maxRecDepth 100000 in
set_option maxHeartbeats 6400000 in
theorem bestR_any (a : Option Addr) (n cap : Nat) (xs : List Rate) (goods : ByteArray) (hour known : Int) (w : World) (hn : n ≤ 300) (hL : Lst w 9 cR a n cap xs) :
    Calls Tryz.prog 94 #[.slice a n cap, .string goods, .int .i64 hour, .int .i64 known] w (Gives w (.int .i64 (bestI xs goods hour known n))) := by
  have hm : cap ≤ 9223372036854775807 := by have := hL.max; unfold maxLen at this; omega
  have hle := hL.le
  have hlen := Lib.hid hL.len
  have hRt := ratesR_any a n cap xs w hn hL
  go_enter Tryz.func94, Tryz.ntmps94
  go_wp2_with (fail)
  refine hRt.mono ?_
  rintro e w1 ⟨ah, ch, rfl, hLh, hB1⟩
  clear hRt
  have hmh : ch ≤ 9223372036854775807 := by have := hLh.max; unfold maxLen at this; omega
  have hlh := hLh.le
  go_wp2_with (fail)
  go_loopw [10, 11] (fun o i wr => ∃ k : Nat, k ≤ n ∧ i = .int .i64 k ∧ o = .int .i64 (bestI xs goods hour known k) ∧ RowKit.Below w1.heap.size w1 wr) (fun _ i _ => n - (intOf i).toNat)
  case atStart => exact ⟨0, Nat.zero_le _, rfl, rfl, Below.refl _ _⟩
  case round =>
    obtain ⟨k, hk, rfl, rfl, hB⟩ := hrel
    have hBw := hB1.trans (hB.mono hB1.size)
    by_cases hlt : k < n
    · have hltz : (k : Int) < (n : Int) := by omega
      obtain ⟨x, hx⟩ : ∃ x, xs[k]? = some x := ⟨xs[k]'(by rw [hlen.out]; exact hlt), by simp⟩
      have hxd : xs.getD k zeroRate = x := by rw [List.getD_eq_getElem?_getD, hx]; rfl
      have hhx : (xs.map Rate.head)[k]? = some x.head := by rw [List.getElem?_map, hx]; rfl
      have hLw := hLh.below hB
      have hLr := hL.below hBw
      obtain ⟨bh, oh, rfl, hbh, hrh⟩ := hLw.at_ k _ hhx
      have c0 := cell_regrown (hrh 0 _ rfl)
      have c1 := cell_regrown (hrh 1 _ rfl)
      have c2 := cell_regrown (hrh 2 _ rfl)
      obtain ⟨bb, off, rfl, hbb, hr⟩ := hLr.at_ k x hx
      have m2 := cell_regrown (hr 2 _ rfl)
      have m3 := cell_regrown (hr 3 _ rfl)
      simp only [Nat.add_zero] at c0
      have hbd := bestI_bd xs goods hour known k
      have hst : bestI xs goods hour known (k + 1) = if counts (xs.map Rate.head) known x.head = true ∧ x.goods = goods ∧ x.from_ ≤ hour ∧ (bestI xs goods hour known k < 0 ∨ (getI xs (bestI xs goods hour known k)).from_ ≤ x.from_) then (k : Int) else bestI xs goods hour known k := by rw [bestI, hxd]
      have cF := regrown_call (w := wr) (v := .bool (counts (xs.map Rate.head) known x.head)) (fun W' h => countsR_any (some ⟨bh, oh, none⟩) n ch (xs.map Rate.head) x.head known W' (hLw.below h))
      obtain ⟨o2, ho2⟩ : ∃ o2, o2 = bestI xs goods hour known (k + 1) := ⟨_, rfl⟩
      rw [← ho2] at hst
      have Ho2 := Lib.hid ho2
      clear ho2
      generalize bestI xs goods hour known k = o at *
      generalize counts (xs.map Rate.head) known x.head = cb at *
      have hkz : (0 : Int) ≤ (k : Int) := by omega
      have hfin : ∀ dq osq, RowKit.Below w1.heap.size w1 (grow (redrawn wr dq) osq) := fun dq osq => hB.trans ((below_regrown wr dq osq).mono hB.size)
      have HL := Lib.hid hLr
      have Hst := Lib.hid hst
      have Hfin := Lib.hid hfin
      clear hrh hr hLw hLr hst hhx hxd hx hfin
      cases cb with
      | false =>
        have ho : o2 = o := by rw [Hst.out, if_neg (fun e => by simp at e)]
        have Ho := Lib.hid ho
        clear ho
        go_wp2_with (fail)
        refine wp_region_quiet_below (by kernel_rfl) (by kernel_rfl) ?_
        repeat (go_big_quiet_step (with_reducible exact cF _ _))
        refine wpQuiet_nil ?_
        intro _ hw'
        obtain ⟨⟨dq, osq⟩, hw''⟩ := hw'
        subst hw''
        go_wp2_with (fail)
        go_roundw
        case rel => exact ⟨k + 1, by omega, by go_num, by rw [← Ho2.out, Ho.out], Hfin.out dq osq⟩
        case measure => simp [intOf]; omega
      | true =>
        by_cases hg : x.goods = goods
        · have g1 : (x.goods.toList == goods.toList) = true := by rw [toList_beq]; simp [hg]
          have Hg := Lib.hid hg
          clear hg
          by_cases hf : x.from_ ≤ hour
          · have f1 : decide (x.from_ ≤ hour) = true := decide_eq_true hf
            by_cases ho0 : o < 0
            · have f2 : decide (o < 0) = true := decide_eq_true ho0
              have ho : o2 = k := by rw [Hst.out, if_pos ⟨rfl, Hg.out, hf, .inl ho0⟩]
              have Ho := Lib.hid ho
              clear ho
              go_wp2_with (fail)
              refine wp_region_quiet_below (by kernel_rfl) (by kernel_rfl) ?_
              repeat (go_big_quiet_step (with_reducible exact cF _ _))
              refine wpQuiet_nil ?_
              intro _ hw'
              obtain ⟨⟨dq, osq⟩, hw''⟩ := hw'
              subst hw''
              go_wp2_with (fail)
              go_roundw
              case rel => exact ⟨k + 1, by omega, by go_num, by rw [← Ho2.out, Ho.out], Hfin.out dq osq⟩
              case measure => simp [intOf]; omega
            · obtain ⟨j, rfl⟩ : ∃ j : Nat, o = (j : Int) := ⟨o.toNat, by omega⟩
              have hj : j < n := by omega
              have hjz : (j : Int) < (n : Int) := by omega
              have hj0 : (0 : Int) ≤ (j : Int) := by omega
              have f2 : decide ((j : Int) < 0) = false := decide_eq_false ho0
              have f2n : ¬ j < 0 := by omega
              obtain ⟨y, hy⟩ : ∃ y, xs[j]? = some y := ⟨xs[j]'(by rw [hlen.out]; exact hj), by simp⟩
              have hyd : getI xs (j : Int) = y := by unfold getI; rw [Int.toNat_natCast, List.getD_eq_getElem?_getD, hy]; rfl
              obtain ⟨b2, o3, e, _, hr⟩ := HL.out.at_ j y hy
              obtain ⟨rfl, rfl⟩ : b2 = bb ∧ o3 = off := by injection e with e; injection e with e1 e2; exact ⟨e1.symm, e2.symm⟩
              have n2 := cell_regrown (hr 2 _ rfl)
              clear hr hy e
              by_cases hq : y.from_ ≤ x.from_
              · have f3 : decide (y.from_ ≤ x.from_) = true := decide_eq_true hq
                have ho : o2 = k := by rw [Hst.out, if_pos ⟨rfl, Hg.out, hf, .inr (by rw [hyd]; exact hq)⟩]
                have Ho := Lib.hid ho
                clear ho hyd
                go_wp2_with (fail)
                refine wp_region_quiet_below (by kernel_rfl) (by kernel_rfl) ?_
                repeat (go_big_quiet_step (with_reducible exact cF _ _))
                refine wpQuiet_nil ?_
                intro _ hw'
                obtain ⟨⟨dq, osq⟩, hw''⟩ := hw'
                subst hw''
                go_wp2_with (fail)
                go_roundw
                case rel => exact ⟨k + 1, by omega, by go_num, by rw [← Ho2.out, Ho.out], Hfin.out dq osq⟩
                case measure => simp [intOf]; omega
              · have f3 : decide (y.from_ ≤ x.from_) = false := decide_eq_false hq
                have ho : o2 = j := by rw [Hst.out, if_neg (fun e => by rw [hyd] at e; rcases e.2.2.2 with e | e; exact ho0 e; exact hq e)]
                have Ho := Lib.hid ho
                clear ho hyd
                go_wp2_with (fail)
                refine wp_region_quiet_below (by kernel_rfl) (by kernel_rfl) ?_
                repeat (go_big_quiet_step (with_reducible exact cF _ _))
                refine wpQuiet_nil ?_
                intro _ hw'
                obtain ⟨⟨dq, osq⟩, hw''⟩ := hw'
                subst hw''
                go_wp2_with (fail)
                go_roundw
                case rel => exact ⟨k + 1, by omega, by go_num, by rw [← Ho2.out, Ho.out], Hfin.out dq osq⟩
                case measure => simp [intOf]; omega
          · have f1 : decide (x.from_ ≤ hour) = false := decide_eq_false hf
            have ho : o2 = o := by rw [Hst.out, if_neg (fun e => hf e.2.2.1)]
            have Ho := Lib.hid ho
            clear ho
            go_wp2_with (fail)
            refine wp_region_quiet_below (by kernel_rfl) (by kernel_rfl) ?_
            repeat (go_big_quiet_step (with_reducible exact cF _ _))
            refine wpQuiet_nil ?_
            intro _ hw'
            obtain ⟨⟨dq, osq⟩, hw''⟩ := hw'
            subst hw''
            go_wp2_with (fail)
            go_roundw
            case rel => exact ⟨k + 1, by omega, by go_num, by rw [← Ho2.out, Ho.out], Hfin.out dq osq⟩
            case measure => simp [intOf]; omega
        · have g1 : (x.goods.toList == goods.toList) = false := by rw [toList_beq]; simp [hg]
          have ho : o2 = o := by rw [Hst.out, if_neg (fun e => hg e.2.1)]
          have Ho := Lib.hid ho
          clear ho hg
          go_wp2_with (fail)
          refine wp_region_quiet_below (by kernel_rfl) (by kernel_rfl) ?_
          repeat (go_big_quiet_step (with_reducible exact cF _ _))
          refine wpQuiet_nil ?_
          intro _ hw'
          obtain ⟨⟨dq, osq⟩, hw''⟩ := hw'
          subst hw''
          go_wp2_with (fail)
          go_roundw
          case rel => exact ⟨k + 1, by omega, by go_num, by rw [← Ho2.out, Ho.out], Hfin.out dq osq⟩
          case measure => simp [intOf]; omega
    · obtain rfl : k = n := by omega
      go_wp2_with (fail)
      go_ret
      exact ⟨rfl, hBw⟩

set_option maxRecDepth 100000 in
theorem forceRI_any (a : Option Addr) (n cap : Nat) (xs : List Rate) (goods : ByteArray) (hour known : Int) (w : World) (hn : n ≤ 300) (hL : Lst w 9 cR a n cap xs) :
    Calls Tryz.prog 57 #[.slice a n cap, .string goods, .int .i64 hour, .int .i64 known] w (Gives w (.int .i64 (forceI xs goods hour known))) := by
  have hb1 := bestR_any a n cap xs goods hour known w hn hL
  have hb2 := fun W (hB : RowKit.Below w.heap.size w W) => bestR_any a n cap xs ⟨#[]⟩ hour known W hn (hL.below hB)
  obtain ⟨q, hq⟩ : ∃ q, q = forceI xs goods hour known := ⟨_, rfl⟩
  rw [← hq]
  unfold forceI at hq
  rw [hL.len] at hq
  clear hL
  generalize bestI xs goods hour known n = o at *
  generalize bestI xs ⟨#[]⟩ hour known n = o' at *
  have Hq := Lib.hid hq
  clear hq
  go_enter Tryz.func57, Tryz.ntmps57
  go_wp2_with (fail)
  refine hb1.mono ?_
  rintro e w1 ⟨rfl, hB1⟩
  clear hb1
  by_cases h : o < 0
  · have d : decide (o < 0) = true := decide_eq_true h
    go_wp2_with (fail)
    refine (hb2 w1 hB1).mono ?_
    rintro e w2 ⟨rfl, hB2⟩
    go_wp2_with (fail)
    go_ret
    exact ⟨by rw [Hq.out, if_pos h]; rfl, hB1.trans (hB2.mono hB1.size)⟩
  · have d : decide (o < 0) = false := decide_eq_false h
    go_wp2_with (fail)
    go_ret
    exact ⟨by rw [Hq.out, if_neg (by omega)]; rfl, hB1⟩

def fidI (xs : List Rate) (goods : ByteArray) (hour known : Int) : Int := if forceI xs goods hour known < 0 then 0 else (getI xs (forceI xs goods hour known)).id

theorem forceI_bd (xs : List Rate) (goods : ByteArray) (hour known : Int) : -1 ≤ forceI xs goods hour known ∧ forceI xs goods hour known < xs.length := by
  unfold forceI
  have h1 := bestI_bd xs goods hour known xs.length
  have h2 := bestI_bd xs ⟨#[]⟩ hour known xs.length
  split
  · exact h2
  · exact h1

theorem Lst.getI {w : World} {a : Option Addr} {n cap : Nat} {xs : List Rate} (h : Lst w 9 cR a n cap xs) (o : Int) (h0 : 0 ≤ o) (h1 : o < xs.length) :
    ∃ j : Nat, o = j ∧ j < n ∧ ∃ b off, a = some ⟨b, off, none⟩ ∧ b < w.heap.size ∧ w.rangeAt b (off + j * 9) (cR (Lg.getI xs o)) := by
  refine ⟨o.toNat, by omega, by have := h.len; omega, ?_⟩
  have hx : xs[o.toNat]? = some (Lg.getI xs o) := by
    unfold Lg.getI
    rw [List.getD_eq_getElem?_getD, List.getElem?_eq_getElem (by omega)]; rfl
  exact h.at_ _ _ hx

set_option maxRecDepth 100000 in
theorem forceIdR_any (a : Option Addr) (n cap : Nat) (xs : List Rate) (goods : ByteArray) (hour known : Int) (w : World) (hn : n ≤ 300) (hL : Lst w 9 cR a n cap xs) :
    Calls Tryz.prog 61 #[.slice a n cap, .string goods, .int .i64 hour, .int .i64 known] w (Gives w (.int .i64 (fidI xs goods hour known))) := by
  have hm : cap ≤ 9223372036854775807 := by have := hL.max; unfold maxLen at this; omega
  have hle := hL.le
  have hb1 := forceRI_any a n cap xs goods hour known w hn hL
  have hbd := forceI_bd xs goods hour known
  have HG := Lib.hid (fun W (hB : RowKit.Below w.heap.size w W) => (hL.below hB).getI (forceI xs goods hour known))
  obtain ⟨q, hq⟩ : ∃ q, q = fidI xs goods hour known := ⟨_, rfl⟩
  rw [← hq]
  unfold fidI at hq
  generalize forceI xs goods hour known = o at *
  clear hL
  have Hq := Lib.hid hq
  clear hq
  go_enter Tryz.func61, Tryz.ntmps61
  go_wp2_with (fail)
  refine hb1.mono ?_
  rintro e w1 ⟨rfl, hB1⟩
  clear hb1
  by_cases h : o < 0
  · have d : decide (o < 0) = true := decide_eq_true h
    go_wp2_with (fail)
    go_ret
    exact ⟨by rw [Hq.out, if_pos h]; rfl, hB1⟩
  · have d : decide (o < 0) = false := decide_eq_false h
    obtain ⟨j, rfl, hj, b, off, rfl, _, hr⟩ := HG.out w1 hB1 (by omega) hbd.2
    have c0 := hr 0 _ rfl
    simp only [Nat.add_zero] at c0
    have hjz : (j : Int) < (n : Int) := by omega
    have hj0 : (0 : Int) ≤ (j : Int) := by omega
    clear hr
    go_wp2_with (fail)
    go_ret
    exact ⟨by rw [Hq.out, if_neg (by omega)]; rfl, hB1⟩

end Go.Proofs.YtollegoajlfdiaaGreat

/-
  Plain functions: a number laid into an ascending list, as the reference lays it.
-/
namespace Lg
open Go

def atI (S : List Int) (f : Int) : Nat := (S.takeWhile (fun t => decide (t < f))).length
def insI (S : List Int) (f : Int) : List Int := if S[atI S f]? = some f then S else S.take (atI S f) ++ f :: S.drop (atI S f)
def insD (S : List Int) (f : Int) : List Int := S.take (atI S f) ++ f :: S.drop (atI S f)
def hoursI (l : List Rate) : List Int := l.foldl (fun S x => insI S x.from_) [0]

theorem atI_eq : ∀ (S : List Int) (f : Int) (j : Nat), (∀ i t, i < j → S[i]? = some t → t < f) → (j = S.length ∨ ∃ t, S[j]? = some t ∧ ¬ t < f) → atI S f = j := by
  intro S
  induction S with
  | nil =>
    intro f j _ h2
    rcases h2 with h2 | ⟨t, h2, _⟩
    · rw [h2]; rfl
    · simp at h2
  | cons a S ih =>
    intro f j h1 h2
    cases j with
    | zero =>
      rcases h2 with h2 | ⟨t, h2, h3⟩
      · simp at h2
      · have : a = t := by simpa using h2
        subst this
        unfold atI
        rw [List.takeWhile_cons_of_neg (by simpa using h3)]
        rfl
    | succ j =>
      have ha : a < f := h1 0 a (by omega) rfl
      unfold atI
      rw [List.takeWhile_cons_of_pos (by simpa using ha), List.length_cons]
      have := ih f j (fun i t hi ht => h1 (i + 1) t (by omega) (by simpa using ht)) (by
        rcases h2 with h2 | ⟨t, h2, h3⟩
        · exact .inl (by simpa using h2)
        · exact .inr ⟨t, by simpa using h2, h3⟩)
      unfold atI at this
      omega

theorem atI_le (S : List Int) (f : Int) : atI S f ≤ S.length := (List.takeWhile_sublist _).length_le

theorem insD_len (S : List Int) (f : Int) : (insD S f).length = S.length + 1 := by
  have := atI_le S f
  unfold insD
  simp
  omega

theorem insI_len (S : List Int) (f : Int) : S.length ≤ (insI S f).length ∧ (insI S f).length ≤ S.length + 1 := by
  unfold insI
  split
  · omega
  · have := insD_len S f
    unfold insD at this
    omega

theorem hoursI_len (l : List Rate) : 1 ≤ (hoursI l).length ∧ (hoursI l).length ≤ l.length + 1 := by
  unfold hoursI
  have : ∀ (l : List Rate) (S : List Int), S.length ≤ (l.foldl (fun S x => insI S x.from_) S).length ∧ (l.foldl (fun S x => insI S x.from_) S).length ≤ S.length + l.length := by
    intro l
    induction l with
    | nil => intro S; simp
    | cons x l ih =>
      intro S
      have h1 := ih (insI S x.from_)
      have h2 := insI_len S x.from_
      rw [List.foldl_cons, List.length_cons]
      omega
  have := this l [0]
  simp only [List.length_singleton] at this
  omega

theorem mem_takeWhile (p : Int → Bool) (t : Int) : ∀ (S : List Int), t ∈ S.takeWhile p → p t = true := by
  intro S
  induction S with
  | nil => intro h; cases h
  | cons a S ih =>
    intro h
    by_cases ha : p a = true
    · rw [List.takeWhile_cons_of_pos ha] at h
      rcases List.mem_cons.1 h with rfl | h
      · exact ha
      · exact ih h
    · rw [List.takeWhile_cons_of_neg ha] at h; cases h

theorem takeWhile_take (p : Int → Bool) : ∀ (S : List Int), S.take (S.takeWhile p).length = S.takeWhile p ∧ S.drop (S.takeWhile p).length = S.dropWhile p := by
  intro S
  induction S with
  | nil => simp
  | cons a S ih =>
    by_cases h : p a = true
    · rw [List.takeWhile_cons_of_pos h, List.dropWhile_cons_of_pos h]; simpa using ih
    · rw [List.takeWhile_cons_of_neg h, List.dropWhile_cons_of_neg h]; simp

/-- A number laid into an ascending list leaves it ascending. -/
theorem insD_sorted {S : List Int} (hS : S.Pairwise (· ≤ ·)) (f : Int) : (insD S f).Pairwise (· ≤ ·) ∧ (insD S f).Perm (f :: S) := by
  unfold insD atI
  obtain ⟨e1, e2⟩ := takeWhile_take (fun t => decide (t < f)) S
  rw [e1, e2]
  have hsplit : S.takeWhile (fun t => decide (t < f)) ++ S.dropWhile (fun t => decide (t < f)) = S := List.takeWhile_append_dropWhile
  constructor
  · have hS' := hS
    rw [← hsplit, List.pairwise_append] at hS'
    obtain ⟨p1, p2, p3⟩ := hS'
    rw [List.pairwise_append]
    have hlo : ∀ t ∈ S.takeWhile (fun t => decide (t < f)), t < f := fun t ht => by simpa using mem_takeWhile _ t S ht
    have hhi : ∀ t ∈ S.dropWhile (fun t => decide (t < f)), f ≤ t := by
      intro t ht
      cases hd : S.dropWhile (fun t => decide (t < f)) with
      | nil => rw [hd] at ht; cases ht
      | cons b R =>
        rw [hd] at p2 ht
        have hb : ¬ b < f := by
          have hne : S.dropWhile (fun t => decide (t < f)) ≠ [] := by rw [hd]; simp
          have h0 := List.head_dropWhile_not (fun t => decide (t < f)) hne
          simp only [hd, List.head_cons] at h0
          simpa using h0
        rcases List.mem_cons.1 ht with rfl | ht
        · omega
        · have := List.rel_of_pairwise_cons p2 ht; omega
    refine ⟨p1, List.pairwise_cons.2 ⟨hhi, p2⟩, fun a ha b hb => ?_⟩
    rcases List.mem_cons.1 hb with rfl | hb
    · have := hlo a ha; omega
    · exact p3 a ha b hb
  · have hp := (List.perm_middle (a := f) (l₁ := S.takeWhile (fun t => decide (t < f))) (l₂ := S.dropWhile (fun t => decide (t < f))))
    rw [hsplit] at hp
    exact hp

end Lg

/-
  Walks: the reference's hours.
-/
namespace Go.Proofs.YtollegoajlfdiaaGreat
open Go.RowKit Lg Go.Sort Go.Shelf

theorem cI_one (x : Int) : ∀ u ∈ cI x, u.oneCell' = true := by
  intro u hu
  rcases List.mem_singleton.1 hu with rfl
  rfl

theorem Lst.suf {w : World} {b : Nat} {n cap : Nat} {xs : List Int} (h : Lst w 1 cI (some ⟨b, 0, none⟩) n cap xs) (j : Nat) (hj : j ≤ n) : Lst w 1 cI (some ⟨b, j, none⟩) (n - j) (cap - j) (xs.drop j) :=
  ⟨by rw [List.length_drop, h.len], by have := h.le; omega, by have := h.max; omega, fun i x hx => by
    rw [List.getElem?_drop] at hx
    obtain ⟨b', o, e, hb, hr⟩ := h.at_ (j + i) x hx
    obtain ⟨rfl, rfl⟩ : b' = b ∧ o = 0 := by injection e with e; injection e with e1 e2; exact ⟨e1.symm, e2.symm⟩
    refine ⟨b', j, rfl, hb, ?_⟩
    rw [show 0 + (j + i) * 1 = j + i * 1 by omega] at hr
    exact hr⟩

theorem Lst.oneI {W : World} {B : Nat} {f : Int} (k : Blk W B #[.int .i64 f] 3) : Lst W 1 cI (some ⟨B, 0, none⟩) 1 1 [f] :=
  ⟨rfl, Nat.le_refl _, by unfold maxLen; omega, fun i x hx => by
    have hi : i = 0 := by have := (List.getElem?_eq_some_iff.1 hx).1; simp at this; exact this
    subst hi
    obtain rfl : f = x := by simpa using hx
    refine ⟨B, 0, rfl, k.lt, fun j u hu => ?_⟩
    have hj : j = 0 := by have := (List.getElem?_eq_some_iff.1 hu).1; simp at this; exact this
    subst hj
    obtain rfl : Value.int .i64 f = u := by simpa using hu
    exact k.cell 0⟩

theorem Lst.zero {α : Type} (W : World) (k : Nat) (enc : α → List Value) (b : Option Addr) (c : Nat) (hc : c ≤ maxLen) : Lst W k enc b 0 c [] := ⟨rfl, Nat.zero_le _, hc, fun i x h => by simp at h⟩

theorem hoursI_snoc (l : List Rate) (k : Nat) (x : Rate) (h : l[k]? = some x) : hoursI (l.take (k + 1)) = insI (hoursI (l.take k)) x.from_ := by
  obtain ⟨h1, h2⟩ := List.getElem?_eq_some_iff.1 h
  unfold hoursI
  rw [List.take_succ_eq_append_getElem h1, h2, List.foldl_append]; rfl

set_option maxRecDepth 100000 in
set_option maxHeartbeats 6400000 in
theorem hoursR_any (a : Option Addr) (n cap : Nat) (xs : List Rate) (w : World) (hn : n ≤ 300) (hL : Lst w 9 cR a n cap xs) :
    Calls Tryz.prog 60 #[.slice a n cap] w fun e w' => ∃ v, e = .returned v ∧ w'.ownsRow w.heap.size 3 1 v (hoursI xs).length ((hoursI xs).flatMap cI) ∧ RowKit.Below w.heap.size w w' := by
  have hm : cap ≤ 9223372036854775807 := by have := hL.max; unfold maxLen at this; omega
  have hle := hL.le
  have hlen := Lib.hid hL.len
  obtain ⟨i0, hi0, hz0, hz1, hz2⟩ := info_parts infoI
  go_enter Tryz.func60, Tryz.ntmps60
  go_wp2_with (fail)
  go_loopw [3, 4] (fun o i wr => ∃ k : Nat, k ≤ n ∧ i = .int .i64 k ∧ ∃ S : List Int, Hid (S = hoursI (xs.take k)) ∧ 1 ≤ S.length ∧ S.length ≤ k + 1 ∧ wr.ownsRow w.heap.size 3 1 o S.length (S.flatMap cI) ∧ RowKit.Below w.heap.size w wr) (fun _ i _ => n - (intOf i).toNat)
  case atStart => exact ⟨0, Nat.zero_le _, rfl, [0], Lib.hid rfl, Nat.le_refl _, Nat.le_refl _, World.ownsRow_lit w #[.int .i64 0] 1 (Nat.le_refl _) (by unfold maxLen; omega) rfl, (Below.refl _ w).alloc (Nat.le_refl _) _⟩
  case round =>
    obtain ⟨k, hk, rfl, S, HS, hS1, hS2, hor, hB⟩ := hrel
    by_cases hlt : k < n
    · have hltz : (k : Int) < (n : Int) := by omega
      obtain ⟨x, hx⟩ : ∃ x, xs[k]? = some x := ⟨xs[k]'(by rw [hlen.out]; exact hlt), by simp⟩
      obtain ⟨bb, off, rfl, hbb, hr⟩ := hL.at_ k x hx
      have hr2 := hr 2 _ rfl
      have hsn := hoursI_snoc xs k x hx
      rw [← HS.out] at hsn
      have Hsn := Lib.hid hsn
      have HM := Lib.hid (fun W (h : RowKit.Below w.heap.size w W) => (h.cell (p := ⟨bb, off + k * 9 + 2, none⟩) hbb).trans hr2)
      obtain ⟨g, cv, rfl, hg, hgl⟩ := hor.form (by omega)
      obtain ⟨av, cv', e, _, hl⟩ := Lst.of_owns (k := 1) (enc := cI) (fun _ => rfl) (by omega) hor rfl
      obtain ⟨rfl, rfl⟩ : av = some ⟨g, 0, none⟩ ∧ cv' = cv := by injection e with e1 e2 e3; exact ⟨e1.symm, e3.symm⟩
      have hmv : cv' ≤ 9223372036854775807 := by have := hl.max; unfold maxLen at this; omega
      have hlv := hl.le
      have Hl := Lib.hid hl
      clear hr hr2 hsn hx e hl hL
      obtain ⟨m, hmS⟩ : ∃ m, m = S.length := ⟨_, rfl⟩
      rw [← hmS] at hor hlv hS1 hS2 ⊢
      have HmS := Lib.hid hmS
      clear hmS HS
      go_wp2_with (fail)
      go_loopw [5] (fun j wi' => ∃ q : Nat, q ≤ m ∧ j = .int .i64 q ∧ RowKit.Below wr.heap.size wr wi' ∧ Hid (∀ i t, i < q → S[i]? = some t → t < x.from_)) (fun j _ => m - (intOf j).toNat)
      case atStart => exact ⟨0, Nat.zero_le _, rfl, Below.refl _ _, Lib.hid (fun i t h => absurd h (Nat.not_lt_zero _))⟩
      case round =>
        obtain ⟨q, hq, rfl, hBi, Hq⟩ := hrel
        have hBw := hB.trans (hBi.mono hB.size)
        have c2 := HM.out _ hBw
        have hl := Hl.out.below hBi
        have hdr : ∀ d, RowKit.Below wr.heap.size wr (wr.drewN d) := fun d => below_drewN' (Below.refl _ wr) d
        have hpre : ∀ d, Lst (wr.drewN d) 1 cI (some ⟨g, 0, none⟩) q cv' (S.take q) := fun d => (hl.below (hdr d)).pre q (by rw [← HmS.out]; exact hq)
        have hsuf : ∀ W, RowKit.Below wr.heap.size wr W → Lst W 1 cI (some ⟨g, q, none⟩) (m - q) (cv' - q) (S.drop q) := fun W h => by rw [HmS.out]; exact (hl.below h).suf q (by rw [← HmS.out]; exact hq)
        have Hpre := Lib.hid hpre
        have Hsuf := Lib.hid hsuf
        have Hdr := Lib.hid hdr
        clear hdr hpre hsuf
        by_cases hqm : q < m
        · have hqz : (q : Int) < (m : Int) := by omega
          obtain ⟨t, ht⟩ : ∃ t, S[q]? = some t := ⟨S[q]'(by rw [← HmS.out]; exact hqm), by simp⟩
          obtain ⟨b', o', e, _, hrt⟩ := hl.at_ q t ht
          obtain ⟨rfl, rfl⟩ : b' = g ∧ o' = 0 := by injection e with e; injection e with e1 e2; exact ⟨e1.symm, e2.symm⟩
          have ct := hrt 0 _ rfl
          simp only [Nat.mul_one, Nat.add_zero, Nat.zero_add] at ct
          have HTq := Lib.hid ht
          clear hrt e ht
          by_cases hlt2 : t < x.from_
          · have d1 : decide (t < x.from_) = true := decide_eq_true hlt2
            go_wp2_with (fail)
            go_quiet (fail)
            go_wp2_with (fail)
            go_roundw
            case rel =>
              refine ⟨q + 1, by omega, by go_num, below_drewN' hBi _, Lib.hid (fun i u hi hu => ?_)⟩
              by_cases hiq : i = q
              · subst hiq; rw [HTq.out] at hu; cases hu; exact hlt2
              · exact Hq.out i u (by omega) hu
            case measure => simp [intOf]; omega
          · have d1 : decide (t < x.from_) = false := decide_eq_false hlt2
            have hat : atI S x.from_ = q := atI_eq S x.from_ q Hq.out (.inr ⟨t, HTq.out, hlt2⟩)
            by_cases heq : t = x.from_
            · have d2 : (t == x.from_) = true := by simpa using heq
              have hsame : insI S x.from_ = S := by unfold insI; rw [hat, HTq.out, heq, if_pos rfl]
              have Hsame := Lib.hid hsame
              clear hsame hat heq
              go_wp2_with (fail)
              go_quiet (fail)
              go_wp2_with (fail)
              go_quiet (fail)
              go_wp2_with (fail)
              go_roundw
              case rel => exact ⟨k + 1, by omega, by go_num, S, Lib.hid (by rw [Hsn.out, Hsame.out]), by rw [← HmS.out]; omega, by rw [← HmS.out]; omega, HmS.out ▸ own_below hor (by first | exact below_drewN' hBi _ | exact below_drewN' (below_drewN' hBi _) _), by first | exact below_drewN' hBw _ | exact below_drewN' (below_drewN' hBw _) _⟩
              case measure => simp [intOf]; omega
            · have d2 : (t == x.from_) = false := by simpa using heq
              have hsame : insI S x.from_ = insD S x.from_ := by unfold insI insD; rw [hat, HTq.out, if_neg (by simpa using heq)]
              have Hsame := Lib.hid hsame
              have Hat := Lib.hid hat
              have hq0 : (0 : Int) ≤ (q : Int) := by omega
              have hqc : (q : Int) ≤ (cv' : Int) := by omega
              have hqm2 : (q : Int) ≤ (m : Int) := by omega
              clear hsame heq hat
              go_wp2_with (fail)
              go_quiet (fail)
              go_wp2_with (fail)
              go_quiet (fail)
              go_wp2_with (first
                | (at_builtin; refine wpList_append_list rfl _ _ _ rfl wr.heap.size 3 i0 _ 1 8 Tryz.underlying35 hi0 hz0 hz1 hz2 rfl (by omega) (.slice none 0 0) 0 [] rfl ⟨by simp, .inl ⟨rfl, rfl⟩⟩ cI (fun _ => rfl) cI_one _ q _ (S.take q) rfl (Hpre.out _) (by unfold maxLen; omega) (by omega) (Nat.le_refl _) ?_; intro v1 w1 hown1 hgrow1; have hB1 := below_of_grown (Hdr.out _) (Nat.le_refl _) hgrow1 (fun r h => by cases h); have c3 := HM.out _ (hBw.trans (hB1.mono hBw.size)))
                | (at_builtin; refine wpList_append_list rfl _ _ _ rfl wr.heap.size 3 i0 _ 1 8 Tryz.underlying35 hi0 hz0 hz1 hz2 rfl (by omega) _ _ _ rfl (hown1.alloc _) cI (fun _ => rfl) cI_one _ 1 _ [x.from_] rfl (Lst.oneI (Blk.new _ _ _)) (by unfold maxLen; omega) (by omega) (by have := hB1.size; simp; omega) ?_; intro v2 w2 hown2 hgrow2; have hB2 := below_of_grown (hB1.alloc hB1.size _) (Nat.le_refl _) hgrow2 (own_ge' hown1))
                | (at_builtin; refine wpList_append_list rfl _ _ _ rfl wr.heap.size 3 i0 _ 1 8 Tryz.underlying35 hi0 hz0 hz1 hz2 rfl (by omega) _ _ _ rfl hown2 cI (fun _ => rfl) cI_one _ (m - q) _ (S.drop q) rfl (Hsuf.out _ hB2) (by unfold maxLen; omega) (by omega) hB2.size ?_; intro v3 w3 hown3 hgrow3; have hB3 := below_of_grown hB2 (Nat.le_refl _) hgrow3 (own_ge' hown2))
                | fail)
              go_roundw
              case rel =>
                have hl3 := insD_len S x.from_
                rw [← HmS.out] at hl3
                refine ⟨k + 1, by omega, by go_num, insD S x.from_, Lib.hid (by rw [Hsn.out, Hsame.out]), by omega, by omega, ?_, hBw.trans (hB3.mono hBw.size)⟩
                rw [hl3, show m + 1 = 0 + q + 1 + (m - q) by omega]
                have e : (insD S x.from_).flatMap cI = [] ++ (S.take q).flatMap cI ++ [x.from_].flatMap cI ++ (S.drop q).flatMap cI := by unfold insD; rw [Hat.out]; simp
                rw [e]
                exact hown3.mono (Nat.le_trans hB.size hBi.size)
              case measure => simp [intOf]; omega
        · obtain rfl : q = m := by omega
          have hat : atI S x.from_ = q := atI_eq S x.from_ q Hq.out (.inl HmS.out)
          have hsame : insI S x.from_ = insD S x.from_ := by unfold insI insD; rw [hat, List.getElem?_eq_none (by rw [← HmS.out]; exact Nat.le_refl _), if_neg (by simp)]
          have Hsame := Lib.hid hsame
          have Hat := Lib.hid hat
          have hz : ¬ (q : Int) < (q : Int) := by omega
          have hq0 : (0 : Int) ≤ (q : Int) := by omega
          have hqc : (q : Int) ≤ (cv' : Int) := by omega
          clear hsame hat hqm
          by_cases hcq : cv' = q
          · subst hcq
            go_wp2_with (fail)
            go_quiet (fail)
            go_wp2_with (fail)
            go_quiet (fail)
            go_wp2_with (first
              | (at_builtin; refine wpList_append_list rfl _ _ _ rfl wr.heap.size 3 i0 _ 1 8 Tryz.underlying35 hi0 hz0 hz1 hz2 rfl (by omega) (.slice none 0 0) 0 [] rfl ⟨by simp, .inl ⟨rfl, rfl⟩⟩ cI (fun _ => rfl) cI_one _ cv' _ (S.take cv') rfl (Hpre.out _) (by unfold maxLen; omega) (by omega) (Nat.le_refl _) ?_; intro v1 w1 hown1 hgrow1; have hB1 := below_of_grown (Hdr.out _) (Nat.le_refl _) hgrow1 (fun r h => by cases h); have c3 := HM.out _ (hBw.trans (hB1.mono hBw.size)))
              | (at_builtin; refine wpList_append_list rfl _ _ _ rfl wr.heap.size 3 i0 _ 1 8 Tryz.underlying35 hi0 hz0 hz1 hz2 rfl (by omega) _ _ _ rfl (hown1.alloc _) cI (fun _ => rfl) cI_one _ 1 _ [x.from_] rfl (Lst.oneI (Blk.new _ _ _)) (by unfold maxLen; omega) (by omega) (by have := hB1.size; simp; omega) ?_; intro v2 w2 hown2 hgrow2; have hB2 := below_of_grown (hB1.alloc hB1.size _) (Nat.le_refl _) hgrow2 (own_ge' hown1))
              | (at_builtin; refine wpList_append_list rfl _ _ _ rfl wr.heap.size 3 i0 _ 1 8 Tryz.underlying35 hi0 hz0 hz1 hz2 rfl (by omega) _ _ _ rfl hown2 cI (fun _ => rfl) cI_one _ 0 _ [] rfl (Lst.zero _ _ _ _ _ (by unfold maxLen; omega)) (by unfold maxLen; omega) (by omega) hB2.size ?_; intro v3 w3 hown3 hgrow3; have hB3 := below_of_grown hB2 (Nat.le_refl _) hgrow3 (own_ge' hown2))
              | fail)
            go_roundw
            case rel =>
              have hl3 := insD_len S x.from_
              rw [← HmS.out] at hl3
              refine ⟨k + 1, by omega, by go_num, insD S x.from_, Lib.hid (by rw [Hsn.out, Hsame.out]), by omega, by omega, ?_, hBw.trans (hB3.mono hBw.size)⟩
              rw [hl3, show cv' + 1 = 0 + cv' + 1 + 0 by omega]
              have e : (insD S x.from_).flatMap cI = [] ++ (S.take cv').flatMap cI ++ [x.from_].flatMap cI ++ ([] : List Int).flatMap cI := by unfold insD; rw [Hat.out, List.drop_eq_nil_of_le (by rw [← HmS.out]; exact Nat.le_refl _)]; simp
              rw [e]
              exact hown3.mono (Nat.le_trans hB.size hBi.size)
            case measure => simp [intOf]; omega
          · have hcq2 : q < cv' := by omega
            have hcqz : (q : Int) < (cv' : Int) := by omega
            have hcq3 : ¬ q = cv' := by omega
            go_wp2_with (fail)
            go_quiet (fail)
            go_wp2_with (fail)
            go_quiet (fail)
            go_wp2_with (first
              | (at_builtin; refine wpList_append_list rfl _ _ _ rfl wr.heap.size 3 i0 _ 1 8 Tryz.underlying35 hi0 hz0 hz1 hz2 rfl (by omega) (.slice none 0 0) 0 [] rfl ⟨by simp, .inl ⟨rfl, rfl⟩⟩ cI (fun _ => rfl) cI_one _ q _ (S.take q) rfl (Hpre.out _) (by unfold maxLen; omega) (by omega) (Nat.le_refl _) ?_; intro v1 w1 hown1 hgrow1; have hB1 := below_of_grown (Hdr.out _) (Nat.le_refl _) hgrow1 (fun r h => by cases h); have c3 := HM.out _ (hBw.trans (hB1.mono hBw.size)))
              | (at_builtin; refine wpList_append_list rfl _ _ _ rfl wr.heap.size 3 i0 _ 1 8 Tryz.underlying35 hi0 hz0 hz1 hz2 rfl (by omega) _ _ _ rfl (hown1.alloc _) cI (fun _ => rfl) cI_one _ 1 _ [x.from_] rfl (Lst.oneI (Blk.new _ _ _)) (by unfold maxLen; omega) (by omega) (by have := hB1.size; simp; omega) ?_; intro v2 w2 hown2 hgrow2; have hB2 := below_of_grown (hB1.alloc hB1.size _) (Nat.le_refl _) hgrow2 (own_ge' hown1))
              | (at_builtin; refine wpList_append_list rfl _ _ _ rfl wr.heap.size 3 i0 _ 1 8 Tryz.underlying35 hi0 hz0 hz1 hz2 rfl (by omega) _ _ _ rfl hown2 cI (fun _ => rfl) cI_one _ 0 _ [] rfl (Lst.zero _ _ _ _ _ (by unfold maxLen; omega)) (by unfold maxLen; omega) (by omega) hB2.size ?_; intro v3 w3 hown3 hgrow3; have hB3 := below_of_grown hB2 (Nat.le_refl _) hgrow3 (own_ge' hown2))
              | fail)
            go_roundw
            case rel =>
              have hl3 := insD_len S x.from_
              rw [← HmS.out] at hl3
              refine ⟨k + 1, by omega, by go_num, insD S x.from_, Lib.hid (by rw [Hsn.out, Hsame.out]), by omega, by omega, ?_, hBw.trans (hB3.mono hBw.size)⟩
              rw [hl3, show q + 1 = 0 + q + 1 + 0 by omega]
              have e : (insD S x.from_).flatMap cI = [] ++ (S.take q).flatMap cI ++ [x.from_].flatMap cI ++ ([] : List Int).flatMap cI := by unfold insD; rw [Hat.out, List.drop_eq_nil_of_le (by rw [← HmS.out]; exact Nat.le_refl _)]; simp
              rw [e]
              exact hown3.mono (Nat.le_trans hB.size hBi.size)
            case measure => simp [intOf]; omega
    · obtain rfl : k = n := by omega
      have hs := HS.out
      rw [List.take_of_length_le (by rw [hlen.out]; exact Nat.le_refl _)] at hs
      subst hs
      go_wp2_with (fail)
      go_ret
      exact ⟨_, rfl, hor, hB⟩

end Go.Proofs.YtollegoajlfdiaaGreat

/-
  Walks: the reference's RateOf, Turns.
-/
namespace Go.Proofs.YtollegoajlfdiaaGreat
open Go.RowKit Lg Go.Sort Go.Shelf

theorem rateOf_ref {l : List Rate} (hv : (checkRates l).2 = 0) (goods : ByteArray) (hour known : Int) :
    rateOf l goods hour known = if forceI l goods hour known < 0 then (zeroRate, 60) else (getI l (forceI l goods hour known), 0) := by
  have h := inForce_ref (l := l) (fun x hx => rateOk_id (checkRates_ok hv x hx)) goods hour known
  unfold rateOf
  rw [if_pos hv, h]
  by_cases e : forceI l goods hour known < 0
  · rw [if_pos e, if_pos e]; rfl
  · rw [if_neg e, if_neg e]; rfl

set_option maxRecDepth 100000 in
set_option maxHeartbeats 3200000 in
theorem rateOfR_any (a : Option Addr) (n cap : Nat) (xs : List Rate) (goods : ByteArray) (hour known : Int) (w : World) (hn : n ≤ 300) (hL : Lst w 9 cR a n cap xs) :
    Calls Tryz.prog 18 #[.slice a n cap, .string goods, .int .i64 hour, .int .i64 known] w (Gives w (.tuple #[aR (rateOf xs goods hour known).1, .int .i64 (rateOf xs goods hour known).2])) := by
  have hm : cap ≤ 9223372036854775807 := by have := hL.max; unfold maxLen at this; omega
  have hle := hL.le
  obtain ⟨r, hr⟩ : ∃ r, r = rateOf xs goods hour known := ⟨_, rfl⟩
  rw [← hr]
  have hB1 : RowKit.Below w.heap.size w (w.alloc (.cells #[.int .i64 0, .int .i64 0, .int .i64 0, .string ⟨#[]⟩, .int .i64 0, .int .i64 0, .int .i64 0, .int .i64 0, .int .i64 0] 26)) := (Below.refl _ w).alloc (Nat.le_refl _) _
  have hcr := checkRatesR_any a n cap xs _ hn (hL.below hB1)
  have HF := Lib.hid (fun W (hB : RowKit.Below w.heap.size w W) => forceRI_any a n cap xs goods hour known W hn (hL.below hB))
  have HG := Lib.hid (fun W (hB : RowKit.Below w.heap.size w W) => (hL.below hB).getI (forceI xs goods hour known))
  have hbd := forceI_bd xs goods hour known
  have hr1 : ((checkRates xs).2 ≠ 0 → r = (zeroRate, (checkRates xs).2)) ∧ ((checkRates xs).2 = 0 → r = if forceI xs goods hour known < 0 then (zeroRate, 60) else (getI xs (forceI xs goods hour known), 0)) :=
    ⟨fun h => by rw [hr]; unfold rateOf; rw [if_neg h], fun h => by rw [hr, rateOf_ref h]⟩
  generalize forceI xs goods hour known = o at *
  generalize (checkRates xs).1 = c1 at *
  generalize (checkRates xs).2 = c2 at *
  have Hr := Lib.hid hr1
  clear hr hr1 hL
  go_enter Tryz.func18, Tryz.ntmps18
  go_wp2_with (fail)
  refine hcr.mono ?_
  clear hcr
  rintro e w2 ⟨rfl, hB2⟩
  have k2 : Blk w2 w.heap.size #[.int .i64 0, .int .i64 0, .int .i64 0, .string ⟨#[]⟩, .int .i64 0, .int .i64 0, .int .i64 0, .int .i64 0, .int .i64 0] 26 := (Blk.new w _ _).below' hB2
  have hb2 : RowKit.Below w.heap.size w w2 := hB1.trans (hB2.mono hB1.size)
  have e2 := k2.cell
  have g2 := k2.frozen
  by_cases hv0 : c2 = 0
  · subst hv0
    go_wp2_with (fail)
    refine (HF.out w2 hb2).mono ?_
    rintro e w3 ⟨rfl, hB3⟩
    have k3 := k2.below' hB3
    have hb3 := hb2.trans (hB3.mono hb2.size)
    have hs3 := k3.lt
    have e3 := k3.cell
    have g3 := k3.frozen
    by_cases ho : o < 0
    · have d : decide (o < 0) = true := decide_eq_true ho
      have hq := Hr.out.2 (by simp)
      rw [if_pos ho] at hq
      subst hq
      go_wp2_with (fail)
      have hbl : Blk (w3.setCells w.heap.size 0 (cR zeroRate)) w.heap.size (cR zeroRate).toArray 26 := by
        rw [← setAll_zero zeroRate]
        exact k3.setCells 0 (cR zeroRate)
      rw [putR0]
      (try simp only [Exit.inBlock, Exit.then]); refine bodyPost_ret (results_cell_tmp rfl _ _ w.heap.size 26 (cR zeroRate) _ rfl hbl Tryz.underlying26 rfl (by kernel_rfl)) rfl ?_
      exact ⟨rfl, below_setCells hb3 (Nat.le_refl _) _ _⟩
    · have d : decide (o < 0) = false := decide_eq_false ho
      have hq := Hr.out.2 (by simp)
      rw [if_neg ho] at hq
      subst hq
      obtain ⟨j, rfl, hj, b, off, rfl, _, hrg⟩ := HG.out w3 hb3 (by omega) hbd.2
      have hjz : (j : Int) < (n : Int) := by omega
      have hj0 : (0 : Int) ≤ (j : Int) := by omega
      generalize Lg.getI xs (j : Int) = x at *
      go_wp2_with (first
        | (refine wpList_load_mid rfl 26 _ rfl b (off + j * 9) rfl (cR x) _ hrg Tryz.underlying26 rfl (by kernel_rfl) ?_)
        | fail)
      have hbl : Blk (w3.setCells w.heap.size 0 (cR x)) w.heap.size (cR x).toArray 26 := by
        rw [← setAll_zero x]
        exact k3.setCells 0 (cR x)
      rw [putR]
      (try simp only [Exit.inBlock, Exit.then]); refine bodyPost_ret (results_cell_tmp rfl _ _ w.heap.size 26 (cR x) _ rfl hbl Tryz.underlying26 rfl (by kernel_rfl)) rfl ?_
      exact ⟨rfl, below_setCells hb3 (Nat.le_refl _) _ _⟩
  · have g0 : (c2 != 0) = true := by simpa using hv0
    have hq := Hr.out.1 hv0
    subst hq
    clear hv0
    go_wp2_with (fail)
    have hbl : Blk (w2.setCells w.heap.size 0 (cR zeroRate)) w.heap.size (cR zeroRate).toArray 26 := by
      rw [← setAll_zero zeroRate]
      exact k2.setCells 0 (cR zeroRate)
    rw [putR0]
    (try simp only [Exit.inBlock, Exit.then]); refine bodyPost_ret (results_cell_tmp rfl _ _ w.heap.size 26 (cR zeroRate) _ rfl hbl Tryz.underlying26 rfl (by kernel_rfl)) rfl ?_
    exact ⟨rfl, below_setCells hb2 (Nat.le_refl _) _ _⟩

end Go.Proofs.YtollegoajlfdiaaGreat
