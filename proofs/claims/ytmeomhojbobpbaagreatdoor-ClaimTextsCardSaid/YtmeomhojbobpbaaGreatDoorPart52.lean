import Derived.Test.YtmeomhojbobpbaaGreatDoorPart08
import Derived.Test.YtmeomhojbobpbaaGreatDoorPart02
import Derived.Test.YtmeomhojbobpbaaGreatDoorPart05
/-
  Plain: the lines of deeds as the reference reads them.
-/
namespace Lg
open Go

/-- The number that at most thirteen digits write; 0 for anything else. -/
def numR (s : Bs) : Int := if 13 < s.length then 0 else if s = [] then 0 else (match Go.Lib.decNat s with | some n => (n : Int) | none => 0)
def numRD (ws : List Bs) (i : Nat) : Int := match ws[i]? with | some s => numR s | none => 0
def kindR (w : Bs) : Int := if w = withdrawL then 5 else if w = claimL then 4 else if w = leftL then 3 else if w = soldL then 2 else if w = paidL then 1 else 0
/-- What the reference makes of the words of a line. -/
def parseRD (ws : List Bs) : Deed :=
  if ws[2]? = some voidL then ⟨numRD ws 0, numRD ws 1, 0, 6, 0, 0, 0, 0, ⟨0, 0⟩, numRD ws 3⟩
  else if ws.length ≤ 3 then ⟨numRD ws 0, numRD ws 1, 0, 0, 0, 0, 0, 0, ⟨0, 0⟩, 0⟩
  else if kindR (ws.getD 3 []) = 5 then ⟨numRD ws 0, numRD ws 1, numRD ws 2, 5, 0, 0, 0, 0, ⟨0, 0⟩, numRD ws 4⟩
  else ⟨numRD ws 0, numRD ws 1, numRD ws 2, kindR (ws.getD 3 []), numRD ws 4, numRD ws 5, numRD ws 6, numRD ws 7, ⟨numRD ws 8, numRD ws 9⟩, 0⟩

theorem numR_nm {n : Int} (h : 0 ≤ n) (h1 : n < 1000000000000) : numR (nm n) = n := by
  have h2 := nm_len h h1
  have hne : nm n ≠ [] := fun e => by rw [e] at h2; simp at h2
  unfold numR
  rw [if_neg (by omega), if_neg hne, nm_dec h]
  show ((n.toNat : Nat) : Int) = n
  omega

theorem parseRD_words {x : Deed} (h : formedD x = true) : parseRD (wordsD x) = x := by
  obtain ⟨h1, h2, h3, h4, h5, h6, h7, h8, h9, h10, h11, h12, h13⟩ := formedD_all h
  obtain ⟨i, kn, ho, k, lo, pa, fr, t, ⟨sn, sd⟩, o⟩ := x
  simp only at h1 h2 h3 h4 h5 h6 h7 h8 h9 h10 h11 h12
  have hk : k = 1 ∨ k = 2 ∨ k = 3 ∨ k = 4 ∨ k = 5 ∨ k = 6 := by omega
  have V : ∀ {n : Int}, 0 ≤ n → n ≤ 1000000 → numR (nm n) = n := fun a b => numR_nm a (by omega)
  have hv := nm_voidD h3.1
  have v1 := V (n := i) (by omega) h1.2
  have v2 := V h2.1 h2.2
  have v3 := V h3.1 h3.2
  have v4 := V (n := lo) h4.1 (by omega)
  have v5 := V (n := pa) h5.1 (by omega)
  have v6 := V (n := fr) h6.1 (by omega)
  have v7 := V (n := t) h7.1 (by omega)
  have v8 := V h8.1 h8.2
  have v9 := V h9.1 h9.2
  have v10 := V h10.1 h10.2
  clear V h1 h2 h4 h5 h6 h7 h8 h9 h10 h
  unfold restD at h13
  rcases hk with rfl | rfl | rfl | rfl | rfl | rfl
  all_goals
    simp [zeroDeed] at h13
    simp [wordsD, headN, tailN, wordK, parseRD, numRD, kindR, paidL, soldL, leftL, claimL, withdrawL, voidL] at *
    try simp [*]
    try omega

/-- A reader that spells well-formed lines and writes again what it has read. -/
theorem reads_by {parse : List Bs → Deed} (hp : ∀ x, formedD x = true → parse (wordsD x) = x) (line : ByteArray) (y : Deed) (e : Int) (h : ReadsD line y e) :
    (formedD (parse (cutL line.data.toList)) = true ∧ lineD (parse (cutL line.data.toList)) = line ∧ y = parse (cutL line.data.toList) ∧ e = 0) ∨
    ((formedD (parse (cutL line.data.toList)) = true → lineD (parse (cutL line.data.toList)) ≠ line) ∧ y = zeroDeed ∧ e = 4) := by
  rcases h with ⟨rfl, h1, h2⟩ | ⟨rfl, rfl, h2⟩
  · have : parse (cutL line.data.toList) = y := by rw [← h2, cutD h1, hp y h1]
    rw [this]
    exact .inl ⟨h1, h2, rfl, rfl⟩
  · exact .inr ⟨h2 _, rfl, rfl⟩

end Lg

namespace Go.Proofs.YtmeomhojbobpbaaGreatDoor
open Go.RowKit Lg Go.Sort Go.Shelf

theorem cutL_ne5 (s : Bs) : cutL s ≠ [] := by
  cases s with
  | nil => simp [cutL]
  | cons c r =>
    unfold cutL
    split
    · simp
    · split <;> simp

theorem nm_small5 {n : Int} (h0 : 0 ≤ n) (h : n < 10) : nm n = [UInt8.ofNat (48 + n.toNat)] := by
  rw [nm_nat h0, Go.Lib.decDigits, dif_pos (by omega)]

theorem nm_big5 {n : Int} (h0 : 0 ≤ n) (h : ¬ n < 10) : nm n = nm (n / 10) ++ nm (n % 10) := by
  rw [nm_nat h0, Go.Lib.decDigits, dif_neg (by omega), nm_nat (show (0 : Int) ≤ n / 10 by omega), nm_small5 (show (0 : Int) ≤ n % 10 by omega) (by omega)]
  congr 2
  · omega
  · congr 2; omega

theorem numsL_append5 (a b : List Int) : numsL (a ++ b) = numsL a ++ numsL b := by
  induction a with
  | nil => rfl
  | cons n r ih => simp [numsL, ih]

theorem cut_hit5 {l : Bs} {f k : Nat} {ds : List Bs} (h : cutL l = ds ++ cutL (l.drop f)) (hn : ∀ c ∈ (l.drop f).take (k - f), c ≠ 32) (hf : f ≤ k) (hk : l[k]? = some 32) :
    cutL l = ds ++ [(l.drop f).take (k - f)] ++ cutL (l.drop (k + 1)) := by
  have e : l.drop f = (l.drop f).take (k - f) ++ 32 :: l.drop (k + 1) := by
    obtain ⟨h1, h2⟩ := List.getElem?_eq_some_iff.1 hk
    have e1 := (List.take_append_drop (k - f) (l.drop f)).symm
    rw [List.drop_drop, show f + (k - f) = k by omega, List.drop_eq_getElem_cons h1, h2] at e1
    exact e1
  have hc := cutL_step hn (l.drop (k + 1))
  rw [← e] at hc
  rw [h, hc]
  simp

theorem cut_miss5 {l : Bs} {f k : Nat} {c : UInt8} (hn : ∀ c ∈ (l.drop f).take (k - f), c ≠ 32) (hf : f ≤ k) (hk : l[k]? = some c) (hc : c ≠ 32) : ∀ c ∈ (l.drop f).take (k + 1 - f), c ≠ 32 := by
  have hd : (l.drop f)[k - f]? = some c := by rw [List.getElem?_drop, show f + (k - f) = k by omega]; exact hk
  obtain ⟨h1, h2⟩ := List.getElem?_eq_some_iff.1 hd
  rw [show k + 1 - f = (k - f) + 1 by omega, List.take_succ_eq_append_getElem h1, h2]
  intro d hd
  simp only [List.mem_append, List.mem_singleton] at hd
  rcases hd with hd | rfl
  · exact hn d hd
  · exact hc

theorem ext_data5 (s : ByteArray) (f k : Nat) (_hf : f ≤ k) (_hk : k ≤ s.size) : (s.extract f k).data.toList = (s.data.toList.drop f).take (k - f) := by
  rw [Go.Lib.extract_data]

set_option maxRecDepth 100000 in
set_option maxHeartbeats 1600000 in
theorem digits1_small (n : Int) (h0 : 0 ≤ n) (h : n < 10) (w : World) : Calls Tryz.prog 84 #[.int .i64 n] w (Gives w (.string (ofL (nm n)))) := by
  have hb : ((UInt8.ofNat (48 + n.toNat)).toNat : Int) = 48 + n := by simp only [UInt8.toNat_ofNat']; omega
  have hk : Blk (w.alloc (.cells #[.int .u8 (48 + n)] 5)) w.heap.size #[.int .u8 (48 + n)] 5 := Blk.new w _ _
  have hcv : (convert 153 9 (.slice (some ⟨w.heap.size, 0, none⟩) 1 1)).run Tryz.prog (w.alloc (.cells #[.int .u8 (48 + n)] 5)) = .ok (.string (ofL (nm n))) (w.alloc (.cells #[.int .u8 (48 + n)] 5)) := by
    rw [nm_small5 h0 h]
    refine run_convert_bytes_back (P := Tryz.prog) (w.alloc (.cells #[.int .u8 (48 + n)] 5)) 153 9 5 ⟨w.heap.size, 0, none⟩ 1 [UInt8.ofNat (48 + n.toNat)] (Tryz.underlying153) (Tryz.underlying5) (Tryz.underlying9) ?_
    intro j hj
    have : j = 0 := by simp at hj; exact hj
    subst this
    simp only [List.getElem_cons_zero, hb]
    exact hk.cell 0
  have hB : RowKit.Below w.heap.size w (w.alloc (.cells #[.int .u8 (48 + n)] 5)) := (Below.refl _ w).alloc (Nat.le_refl _) _
  clear hb hk
  generalize ofL (nm n) = r at *
  go_enter Tryz.func84, Tryz.ntmps84
  go_wp2_with (fail)
  go_ret
  exact ⟨rfl, hB⟩

set_option maxRecDepth 100000 in
set_option maxHeartbeats 1600000 in
theorem digits1_any (k : Nat) : ∀ (n : Int) (w : World), 0 ≤ n → n < 10 ^ (k + 1) → n < 1000000000000 → Calls Tryz.prog 84 #[.int .i64 n] w (Gives w (.string (ofL (nm n)))) := by
  induction k with
  | zero => intro n w h0 h1 _; exact digits1_small n h0 (by simpa using h1) w
  | succ k ih =>
    intro n w h0 h1 hm
    by_cases h : n < 10
    · exact digits1_small n h0 h w
    have i1 := fun W => ih (n / 10) W (by omega) (by rw [Int.pow_succ] at h1; omega) (by omega)
    have i2 := fun W => digits1_small (n % 10) (by omega) (by omega) W
    have l1 := nm_len (show (0 : Int) ≤ n / 10 by omega) (by omega)
    have l2 := nm_len (show (0 : Int) ≤ n % 10 by omega) (by omega)
    have hs : (ofL (nm (n / 10))).size + (ofL (nm (n % 10))).size ≤ 9223372036854775807 := by rw [ofL_size, ofL_size]; omega
    have hsum : ofL (nm n) = ofL (nm (n / 10)) ++ ofL (nm (n % 10)) := by rw [nm_big5 h0 h, ofL_append]
    have hadd := fun W => run_string_add_sum (P := Tryz.prog) W (ofL (nm (n / 10))) (ofL (nm (n % 10))) hs
    rw [hsum]
    clear hsum hs l1 l2 h1 ih
    generalize ofL (nm (n / 10)) = r1 at *
    generalize ofL (nm (n % 10)) = r2 at *
    go_enter Tryz.func84, Tryz.ntmps84
    go_wp2_with (fail)
    refine (i1 _).mono ?_
    rintro e w1 ⟨rfl, hB1⟩
    go_wp2_with (fail)
    refine (i2 _).mono ?_
    rintro e w2 ⟨rfl, hB2⟩
    go_wp2_with (fail)
    go_ret
    exact ⟨rfl, hB1.trans (hB2.mono hB1.size)⟩

set_option maxRecDepth 100000 in
set_option maxHeartbeats 1600000 in
theorem row1_any (W0 : Bs) (a : Option Addr) (n cap : Nat) (xs : List Int) (w : World) (hW : W0.length ≤ 1000) (hn : n ≤ 10) (hx : ∀ x ∈ xs, 0 ≤ x ∧ x < 1000000000000) (hL : Lst w 1 cI a n cap xs) :
    Calls Tryz.prog 83 #[.string (ofL W0), .slice a n cap] w (Gives w (.string (ofL (W0 ++ numsL xs)))) := by
  have hma : cap ≤ 9223372036854775807 := by have := hL.max; unfold maxLen at this; omega
  have hlea := hL.le
  have h0 : ofL W0 = ofL (W0 ++ numsL (xs.take 0)) := by simp [numsL]
  have H0 := Lib.hid h0
  clear h0
  generalize hw0 : ofL W0 = word
  have Hw0 := Lib.hid hw0
  clear hw0
  go_enter Tryz.func83, Tryz.ntmps83
  go_wp2_with (fail)
  go_loopw [0, 5] (fun s i wr => ∃ k : Nat, k ≤ n ∧ i = .int .i64 k ∧ s = .string (ofL (W0 ++ numsL (xs.take k))) ∧ RowKit.Below w.heap.size w wr) (fun _ i _ => n - (intOf i).toNat)
  case atStart => exact ⟨0, Nat.zero_le _, rfl, by rw [← H0.out, Hw0.out], Below.refl _ _⟩
  case round =>
    obtain ⟨k, hk, rfl, rfl, hB⟩ := hrel
    by_cases hlt : k < n
    · have hltz : (k : Int) < (n : Int) := by omega
      obtain ⟨x, hxk⟩ : ∃ x, xs[k]? = some x := ⟨xs[k]'(by rw [hL.len]; exact hlt), by simp⟩
      obtain ⟨b1, o1, rfl, hb1, hr1⟩ := hL.at_ k x hxk
      have l1 := rangeAt_below hB hb1 hr1 0 _ rfl
      simp only [Nat.mul_one, Nat.add_zero] at l1
      have hx1 := hx x (List.mem_of_getElem? hxk)
      have hd := fun W => digits1_any 11 x W hx1.1 (by have := hx1.2; simpa using this) hx1.2
      have hlen1 := numsL_len (xs.take k) (fun y hy => hx y (List.mem_of_mem_take hy))
      rw [List.length_take] at hlen1
      have hlenW : (W0 ++ numsL (xs.take k)).length ≤ 2000 := by rw [List.length_append]; omega
      have hlen2 := nm_len hx1.1 hx1.2
      have s1 : (ofL (W0 ++ numsL (xs.take k))).size + (⟨#[32]⟩ : ByteArray).size ≤ 9223372036854775807 := by rw [ofL_size]; show _ + 1 ≤ _; omega
      have a1 := fun W => run_string_add_sum (P := Tryz.prog) W (ofL (W0 ++ numsL (xs.take k))) ⟨#[32]⟩ s1
      have e1 : ofL (W0 ++ numsL (xs.take k)) ++ ⟨#[32]⟩ = ofL ((W0 ++ numsL (xs.take k)) ++ [32]) := ofL_append _ [32]
      rw [e1] at a1
      have s2 : (ofL ((W0 ++ numsL (xs.take k)) ++ [32])).size + (ofL (nm x)).size ≤ 9223372036854775807 := by rw [ofL_size, ofL_size, List.length_append]; show _ + 1 + _ ≤ _; omega
      have a2 := fun W => run_string_add_sum (P := Tryz.prog) W (ofL ((W0 ++ numsL (xs.take k)) ++ [32])) (ofL (nm x)) s2
      have e2 : ofL ((W0 ++ numsL (xs.take k)) ++ [32]) ++ ofL (nm x) = ofL (W0 ++ numsL (xs.take (k + 1))) := by
        rw [ofL_append]
        obtain ⟨h1, h2⟩ := List.getElem?_eq_some_iff.1 hxk
        rw [List.take_succ_eq_append_getElem h1, h2, numsL_append5]
        simp [numsL]
      rw [e2] at a2
      clear hx e1 e2 s1 s2 hlenW hlen1 hlen2 hx1 hr1 hxk
      generalize ofL (W0 ++ numsL (xs.take k)) = r0 at *
      generalize ofL ((W0 ++ numsL (xs.take k)) ++ [32]) = r1 at *
      generalize hr2 : ofL (W0 ++ numsL (xs.take (k + 1))) = r2 at *
      have Hr2 := Lib.hid hr2
      clear hr2
      generalize ofL (nm x) = rx at *
      go_wp2_with (fail)
      refine (hd _).mono ?_
      rintro e w2 ⟨rfl, hB2⟩
      have hB3 := hB.trans (hB2.mono hB.size)
      clear hd
      go_wp2_with (fail)
      go_roundw
      case rel => exact ⟨k + 1, by omega, by go_num, by rw [Hr2.out], hB3⟩
      case measure => simp [intOf]; omega
    · obtain rfl : k = n := by omega
      rw [List.take_of_length_le (by rw [hL.len]; exact Nat.le_refl _)]
      clear hx
      generalize ofL (W0 ++ numsL xs) = r0 at *
      go_wp2_with (fail)
      go_ret
      exact ⟨rfl, hB⟩

theorem decNat_of5 {l : List UInt8} (h : 1 ≤ l.length) : Go.Lib.decNat l = Go.Lib.decFrom 0 l := by
  unfold Go.Lib.decNat
  cases l with
  | nil => simp at h
  | cons a t => simp

theorem decFrom_none5 {l : List UInt8} {k : Nat} {c : UInt8} (hc : l[k]? = some c) (hd : Go.Lib.digitVal c = none) (acc : Nat) : Go.Lib.decFrom acc l = none := by
  cases h : Go.Lib.decFrom acc l with
  | none => rfl
  | some n =>
    obtain ⟨d, hd2⟩ := Go.Lib.digit_of_decFrom l acc n h k c hc
    rw [hd] at hd2; cases hd2

set_option maxRecDepth 100000 in
set_option maxHeartbeats 1600000 in
theorem number1_any (s : ByteArray) (w : World) : Calls Tryz.prog 88 #[.string s] w fun e w' => e = .returned (.int .i64 (numR s.data.toList)) ∧ w = w' := by
  obtain ⟨q, hq⟩ : ∃ q, q = numR s.data.toList := ⟨_, rfl⟩
  rw [← hq]
  unfold numR at hq
  have hls : s.data.toList.length = s.size := by rw [Array.length_toList]; rfl
  rw [hls] at hq
  by_cases h0 : s.size = 0
  · have he : s.data.toList = [] := List.eq_nil_of_length_eq_zero (by omega)
    rw [if_neg (by omega), if_pos he] at hq
    subst hq
    have hz : ¬ (0 : Int) < (s.size : Int) := by omega
    clear hls h0 he
    go_enter Tryz.func88, Tryz.ntmps88
    go_wp2
    go_loop [3, 4] (fun n i => i = .int .i64 0 ∧ n = .int .i64 0) (fun _ _ => 0)
    case atStart => exact ⟨rfl, rfl⟩
    case round =>
      obtain ⟨rfl, rfl⟩ := hrel
      go_wp2
      go_ret
      exact ⟨rfl, rfl⟩
  by_cases h2 : 13 < s.size
  · have h2z : (13 : Int) < (s.size : Int) := by omega
    have h1z : (0 : Int) < (s.size : Int) := by omega
    rw [if_pos h2] at hq
    subst hq
    clear hls
    go_enter Tryz.func88, Tryz.ntmps88
    go_wp2
    go_loop [3, 4] (fun n i => i = .int .i64 0 ∧ n = .int .i64 0) (fun _ _ => 0)
    case atStart => exact ⟨rfl, rfl⟩
    case round =>
      obtain ⟨rfl, rfl⟩ := hrel
      go_wp2
      go_ret
      exact ⟨rfl, rfl⟩
  have hne : ¬ s.data.toList = [] := fun e => h0 (by rw [← hls, e]; rfl)
  have h2z : ¬ (13 : Int) < (s.size : Int) := by omega
  rw [if_neg h2, if_neg hne, decNat_of5 (by omega)] at hq
  have Hq := Lib.hid hq
  have Hls := Lib.hid hls
  clear hq hls hne
  go_enter Tryz.func88, Tryz.ntmps88
  go_wp2
  go_loop [3, 4] (fun n i => ∃ (k m : Nat), k ≤ s.size ∧ i = .int .i64 k ∧ n = .int .i64 m ∧ m < 10 ^ k ∧ Hid (Go.Lib.decFrom 0 (s.data.toList.take k) = some m)) (fun _ i => s.size - (intOf i).toNat)
  case atStart => exact ⟨0, 0, Nat.zero_le _, rfl, rfl, by decide, Lib.hid (by simp [Go.Lib.decFrom])⟩
  case round =>
    obtain ⟨k, m, hk, rfl, rfl, hm, Ht⟩ := hrel
    have hm12 : m < 10000000000000 := Nat.lt_of_lt_of_le hm (Nat.le_trans (Nat.pow_le_pow_right (by decide) (show k ≤ 13 by omega)) (by decide))
    by_cases hlt : k < s.size
    · have hltz : (k : Int) < (s.size : Int) := by omega
      have hk256 : (s[k]'hlt).toNat < 256 := UInt8.toNat_lt _
      have hget : s.data.toList[k]? = some (s[k]'hlt) := by rw [List.getElem?_eq_getElem (by rw [Array.length_toList]; exact hlt)]; rfl
      have Hget := Lib.hid hget
      have Hm := Lib.hid hm
      clear hget hm
      obtain ⟨c, hc⟩ : ∃ c : Nat, c = (s[k]'hlt).toNat := ⟨_, rfl⟩
      rw [← hc] at hk256
      have hcc : c < 48 ∨ (48 ≤ c ∧ c ≤ 57) ∨ 57 < c := by omega
      rcases hcc with hcc | ⟨hcc, hcc2⟩ | hcc
      · have f1 : ((s[k]'hlt).toNat : Int) < 48 := by omega
        have hd : Go.Lib.digitVal (s[k]'hlt) = none := by unfold Go.Lib.digitVal; rw [← hc, if_neg (by omega)]
        have Hd := Lib.hid hd
        clear hc hcc hd
        go_wp2
        go_ret
        exact ⟨ret_int (by rw [Hq.out, decFrom_none5 Hget.out Hd.out]), rfl⟩
      · have f1 : ¬ ((s[k]'hlt).toNat : Int) < 48 := by omega
        have f2 : ¬ (57 : Int) < ((s[k]'hlt).toNat : Int) := by omega
        have hd : Go.Lib.digitVal (s[k]'hlt) = some (c - 48) := by unfold Go.Lib.digitVal; rw [← hc, if_pos (by omega)]
        have Hd := Lib.hid hd
        have Hc := Lib.hid hc
        have h57 : ((s[k]'hlt).toNat : Int) ≤ 57 := by omega
        have h48 : (48 : Int) ≤ ((s[k]'hlt).toNat : Int) := by omega
        clear hc hd
        go_wp2
        go_round
        case rel =>
          refine ⟨k + 1, m * 10 + (c - 48), by omega, by go_num, ?_, ?_, Lib.hid (Go.Lib.decFrom_take _ k 0 m _ _ Ht.out Hget.out Hd.out)⟩
          · congr 1
            rw [← Hc.out]; omega
          · rw [Nat.pow_succ]; have := Hm.out; omega
        case measure => simp [intOf]; omega
      · have f1 : ¬ ((s[k]'hlt).toNat : Int) < 48 := by omega
        have f2 : (57 : Int) < ((s[k]'hlt).toNat : Int) := by omega
        have hd : Go.Lib.digitVal (s[k]'hlt) = none := by unfold Go.Lib.digitVal; rw [← hc, if_neg (by omega)]
        have Hd := Lib.hid hd
        clear hc hcc hd
        go_wp2
        go_ret
        exact ⟨ret_int (by rw [Hq.out, decFrom_none5 Hget.out Hd.out]), rfl⟩
    · obtain rfl : k = s.size := by omega
      have ht := Ht.out
      rw [List.take_of_length_le (by rw [Hls.out]; exact Nat.le_refl _)] at ht
      have Ht2 := Lib.hid ht
      clear ht Ht
      go_wp2
      go_ret
      exact ⟨ret_int (by rw [Hq.out, Ht2.out]), rfl⟩


def WordsRes (s : ByteArray) (w : World) (e : Ending) (w' : World) : Prop :=
  ∃ a c ws, e = .returned (.slice a ws.length c) ∧ Lst w' 1 cW a ws.length c ws ∧ ws.length ≤ s.size + 1 ∧ ws.map (·.data.toList) = cutL s.data.toList ∧ RowKit.Below w.heap.size w w'

set_option maxRecDepth 100000 in
set_option maxHeartbeats 1600000 in
theorem words1_any (s : ByteArray) (w : World) (hs : s.size ≤ 1000) : Calls Tryz.prog 87 #[.string s] w (WordsRes s w) := by
  have hls : s.data.toList.length = s.size := by rw [Array.length_toList]; rfl
  obtain ⟨L, hL⟩ : ∃ L, L = s.data.toList := ⟨_, rfl⟩
  obtain ⟨i0, hi0, hz0, hz1, hz2⟩ := info_parts infoW
  have HL := Lib.hid hL
  have Hls := Lib.hid hls
  clear hL hls
  go_enter Tryz.func87, Tryz.ntmps87
  go_wp2_with (fail)
  go_loopw [3, 4, 5] (fun o fr i wr => ∃ (k f : Nat) (ds : List ByteArray), k ≤ s.size + 1 ∧ f ≤ k ∧ ds.length ≤ k ∧ i = .int .i64 k ∧ fr = .int .i64 f ∧ wr.ownsRow w.heap.size 9 1 o ds.length (ds.flatMap cW) ∧ RowKit.Below w.heap.size w wr ∧ Hid (k ≤ s.size → (cutL L = ds.map (·.data.toList) ++ cutL (L.drop f) ∧ ∀ c ∈ (L.drop f).take (k - f), c ≠ 32)) ∧ Hid (s.size < k → cutL L = ds.map (·.data.toList))) (fun _ _ i _ => s.size + 1 - (intOf i).toNat)
  case atStart => exact ⟨0, 0, [], Nat.zero_le _, Nat.le_refl _, Nat.le_refl _, rfl, rfl, ⟨by simp, .inl ⟨rfl, rfl⟩⟩, Below.refl _ _, Lib.hid (fun _ => ⟨by simp, by simp⟩), Lib.hid (fun h => absurd h (by omega))⟩
  case round =>
    obtain ⟨k, f, ds, hk, hf, hdl, rfl, rfl, hor, hB, Hcn, Hend⟩ := hrel
    by_cases hlt : k < s.size
    · have hltz : (k : Int) ≤ (s.size : Int) := by omega
      have hlz2 : (k : Int) < (s.size : Int) := by omega
      have hneq : ((k : Int) == (s.size : Int)) = false := by simp; omega
      have Hc := Lib.hid (Hcn.out (by omega)).1
      have Hn := Lib.hid (Hcn.out (by omega)).2
      clear Hcn Hend
      have hk256 : (s[k]'hlt).toNat < 256 := UInt8.toNat_lt _
      have hget : L[k]? = some (s[k]'hlt) := by rw [HL.out, List.getElem?_eq_getElem (by rw [Array.length_toList]; exact hlt)]; rfl
      have Hget := Lib.hid hget
      clear hget
      by_cases hc : s[k]'hlt = 32
      · have hcz : (((s[k]'hlt).toNat : Int) == 32) = true := by rw [hc]; rfl
        have hg2 : L[k]? = some 32 := by rw [← hc]; exact Hget.out
        have hnew := cut_hit5 Hc.out Hn.out hf hg2
        have hex := ext_data5 s f k hf (by omega)
        rw [← HL.out] at hex
        rw [← hex] at hnew
        have Hnew := Lib.hid hnew
        clear hc hg2 hnew hex
        have Hor := Lib.hid hor
        clear hor
        go_wp2_with (first
          | (at_builtin; refine wpList_append_list rfl _ _ _ rfl w.heap.size 9 i0 _ 1 16 Tryz.underlying100 hi0 hz0 hz1 hz2 rfl (by omega) _ _ _ rfl (Hor.out.alloc _) cW (fun _ => rfl) cW_one _ 1 _ [s.extract f k] rfl (Lst.oneW (Blk.new _ _ _)) (by unfold maxLen; omega) (by omega) (by have := hB.size; simp; omega) ?_; intro v2 w2 hown2 hgrow2; have hB2 := below_of_grown (hB.alloc hB.size _) (Nat.le_refl _) hgrow2 (own_ge' Hor.out))
          | fail)
        go_roundw
        case rel =>
          refine ⟨k + 1, k + 1, ds ++ [s.extract f k], by omega, Nat.le_refl _, by simp; omega, by go_num, by go_num, ?_, hB2, Lib.hid (fun _ => ⟨?_, by simp⟩), Lib.hid (fun h => absurd h (by omega))⟩
          · rw [List.length_append, List.flatMap_append]
            exact hown2
          · rw [List.map_append]; exact Hnew.out
        case measure => simp [intOf]; omega
      · have hcz : (((s[k]'hlt).toNat : Int) == 32) = false := by
          simp only [beq_eq_false_iff_ne]
          intro e
          apply hc
          apply UInt8.toNat_inj.1
          have : (32 : UInt8).toNat = 32 := rfl
          omega
        have hnn := cut_miss5 Hn.out hf Hget.out hc
        have Hnn := Lib.hid hnn
        clear hc hnn
        go_wp2_with (fail)
        go_roundw
        case rel => exact ⟨k + 1, f, ds, by omega, by omega, by omega, by go_num, rfl, hor, hB, Lib.hid (fun _ => ⟨Hc.out, Hnn.out⟩), Lib.hid (fun h => absurd h (by omega))⟩
        case measure => simp [intOf]; omega
    · by_cases hke : k = s.size
      · subst hke
        have hltz : (s.size : Int) ≤ (s.size : Int) := by omega
        have hneq : ((s.size : Int) == (s.size : Int)) = true := by simp
        have Hc := Lib.hid (Hcn.out (by omega)).1
        have Hn := Lib.hid (Hcn.out (by omega)).2
        have hnew : cutL L = (ds ++ [s.extract f s.size]).map (·.data.toList) := by
          have h1 := Hn.out
          have h2 := Hc.out
          have hex := ext_data5 s f s.size hf (by omega)
          rw [← HL.out] at hex
          rw [List.take_of_length_le (by rw [List.length_drop, HL.out, Hls.out]; exact Nat.le_refl _)] at h1 hex
          rw [h2, List.map_append, cutL_word h1, ← hex]; rfl
        have Hnew := Lib.hid hnew
        clear hnew Hc Hn Hcn Hend
        have Hor := Lib.hid hor
        clear hor
        go_wp2_with (first
          | (at_builtin; refine wpList_append_list rfl _ _ _ rfl w.heap.size 9 i0 _ 1 16 Tryz.underlying100 hi0 hz0 hz1 hz2 rfl (by omega) _ _ _ rfl (Hor.out.alloc _) cW (fun _ => rfl) cW_one _ 1 _ [s.extract f s.size] rfl (Lst.oneW (Blk.new _ _ _)) (by unfold maxLen; omega) (by omega) (by have := hB.size; simp; omega) ?_; intro v2 w2 hown2 hgrow2; have hB2 := below_of_grown (hB.alloc hB.size _) (Nat.le_refl _) hgrow2 (own_ge' Hor.out))
          | fail)
        go_roundw
        case rel =>
          refine ⟨s.size + 1, s.size + 1, ds ++ [s.extract f s.size], by omega, Nat.le_refl _, by simp; omega, by go_num, by go_num, ?_, hB2, Lib.hid (fun h => absurd h (by omega)), Lib.hid (fun _ => Hnew.out)⟩
          rw [List.length_append, List.flatMap_append]
          exact hown2
        case measure => simp [intOf]
      · have hltz : ¬ (k : Int) ≤ (s.size : Int) := by omega
        have hfin := Hend.out (by omega)
        obtain ⟨av, cv, rfl, _, hl⟩ := Lst.of_owns (k := 1) (enc := cW) (fun _ => rfl) (by omega) hor rfl
        have Hfin := Lib.hid hfin
        have hdl2 : ds.length ≤ s.size + 1 := by omega
        have Hl := Lib.hid hl
        clear hor hfin Hend Hcn hl
        obtain ⟨m, hm⟩ : ∃ m, m = ds.length := ⟨_, rfl⟩
        rw [← hm]
        have Hm := Lib.hid hm
        clear hm
        go_wp2_with (fail)
        go_ret
        exact ⟨av, cv, ds, by rw [← Hm.out]; rfl, Hl.out, hdl2, by rw [← HL.out, Hfin.out], hB⟩

end Go.Proofs.YtmeomhojbobpbaaGreatDoor
