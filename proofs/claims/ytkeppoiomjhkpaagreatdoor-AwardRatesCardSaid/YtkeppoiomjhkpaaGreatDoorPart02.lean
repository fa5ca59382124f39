import Derived.Test.YtkeppoiomjhkpaaGreatDoorPart01
import Derived.Lib.ItoaMem
import Derived.Lib.SplitLaws
import Derived.Lib.AtoiTie
import Derived.Lib.Join
import Derived.Laws.IdiomStrings
import Derived.Laws.Concat
import Derived.BigQuiet
/-
  Plain: the lines of records: words, numerals, cutting and reading; no program in sight.
-/
namespace Lg

abbrev Bs := List UInt8

/-- A text cut at each blank. -/
def cutL : Bs → List Bs
  | [] => [[]]
  | c :: r => if c = 32 then [] :: cutL r else (match cutL r with | [] => [[c]] | h :: t => (c :: h) :: t)

theorem cutL_ne (s : Bs) : cutL s ≠ [] := by
  cases s with
  | nil => simp [cutL]
  | cons c r =>
    unfold cutL
    split
    · simp
    · split <;> simp

theorem cutL_word {x : Bs} (h : ∀ c ∈ x, c ≠ 32) : cutL x = [x] := by
  induction x with
  | nil => rfl
  | cons c r ih =>
    rw [cutL, if_neg (h c (by simp)), ih (fun d hd => h d (by simp [hd]))]

theorem cutL_step {x : Bs} (h : ∀ c ∈ x, c ≠ 32) (r : Bs) : cutL (x ++ 32 :: r) = x :: cutL r := by
  induction x with
  | nil => simp [cutL]
  | cons c t ih =>
    rw [List.cons_append, cutL, if_neg (h c (by simp)), ih (fun d hd => h d (by simp [hd]))]

/-- Words with blanks between them. -/
def lineL : List Bs → Bs
  | [] => []
  | [x] => x
  | x :: y :: r => x ++ 32 :: lineL (y :: r)

theorem cutL_line : ∀ (ws : List Bs), ws ≠ [] → (∀ w ∈ ws, ∀ c ∈ w, c ≠ 32) → cutL (lineL ws) = ws
  | [], h, _ => absurd rfl h
  | [x], _, h => cutL_word (h x (by simp))
  | x :: y :: r, _, h => by
    rw [lineL, cutL_step (h x (by simp)), cutL_line (y :: r) (by simp) (fun w hw => h w (by simp [hw]))]

theorem lineL_join (ws : List Bs) : Go.Lib.join ws [32] = lineL ws := by
  induction ws with
  | nil => rfl
  | cons x r ih =>
    cases r with
    | nil => rw [Go.Lib.join_one]; rfl
    | cons y r =>
      rw [Go.Lib.join_cons, lineL, ← ih, Go.Lib.join_cons]
      simp [Go.Lib.joinTail]

/-- The library's cutting at blanks. -/
theorem splitK_cut : ∀ (s : Bs), Go.Lib.splitK [32] 0 (Go.Lib.count s [32]) s = cutL s
  | [] => by simp [Go.Lib.count, Go.Lib.countFrom, Go.Lib.index, Go.Lib.splitK, cutL]
  | c :: r => by
    have ih := splitK_cut r
    by_cases h : c = 32
    · subst h
      rw [Go.Lib.count_cons_eq, Nat.add_comm, Go.Lib.splitK]
      have hi : Go.Lib.index (32 :: r) [32] = 0 := by simp [Go.Lib.index, List.isPrefixOf]
      rw [hi, cutL, if_pos rfl]
      simp [ih]
    · have hp : List.isPrefixOf [32] (c :: r) = false := by simp [List.isPrefixOf]; exact fun e => h e.symm
      rw [Go.Lib.count_cons_ne c 32 r h, cutL, if_neg h, ← ih]
      cases hk : Go.Lib.count r [32] with
      | zero => rfl
      | succ k =>
        rw [Go.Lib.splitK, Go.Lib.splitK, Go.Lib.index, hp]
        have hg := Go.Lib.index_ge r [32]
        by_cases hi : Go.Lib.index r [32] = -1
        · simp [hi]
        · have b1 : (Go.Lib.index r [32] == -1) = false := by simpa using hi
          have b2 : (Go.Lib.index r [32] + 1 == -1) = false := by simp; omega
          have e : (Go.Lib.index r [32] + 1).toNat = (Go.Lib.index r [32]).toNat + 1 := by omega
          simp [b1, b2, e]

theorem cutL_len (s : Bs) : (cutL s).length = Go.Lib.count s [32] + 1 := by
  rw [← splitK_cut s]
  have h := Go.Lib.splitB_all ⟨#[32]⟩ (by decide) 0 (Go.Lib.countB ⟨s.toArray⟩ ⟨#[32]⟩) ⟨s.toArray⟩ rfl
  have h2 := Go.Lib.splitB_data ⟨#[32]⟩ 0 (Go.Lib.countB ⟨s.toArray⟩ ⟨#[32]⟩) ⟨s.toArray⟩
  have e : Go.Lib.countB ⟨s.toArray⟩ ⟨#[32]⟩ = Go.Lib.count s [32] := by simp [Go.Lib.countB]
  rw [e] at h h2
  have h3 := congrArg List.length h2
  rw [List.length_map, h] at h3
  simpa using h3.symm

theorem cutL_size : ∀ (s : Bs), ∀ w ∈ cutL s, w.length ≤ s.length
  | [], w, h => by simp [cutL] at h; subst h; simp
  | c :: r, w, h => by
    have ih := cutL_size r
    unfold cutL at h
    split at h
    · simp only [List.mem_cons] at h
      rcases h with rfl | h
      · simp
      · have := ih w h; simp; omega
    · split at h
      · simp only [List.mem_cons, List.not_mem_nil, or_false] at h; subst h; simp
      · rename_i h1 t1 he
        simp only [List.mem_cons] at h
        rcases h with rfl | h
        · have := ih h1 (by rw [he]; simp); simp; omega
        · have := ih w (by rw [he]; simp [h]); simp; omega

/-! Numerals. -/

theorem dec_byte (u : Nat) : ∀ c ∈ Go.Lib.decDigits u, 48 ≤ c.toNat ∧ c.toNat ≤ 57 := by
  induction u using Nat.strongRecOn with
  | _ u ih =>
    intro c hc
    rw [Go.Lib.decDigits] at hc
    split at hc
    · simp only [List.mem_singleton] at hc
      subst hc
      simp only [UInt8.toNat_ofNat']
      omega
    · simp only [List.mem_append, List.mem_singleton] at hc
      rcases hc with hc | rfl
      · exact ih (u / 10) (by omega) c hc
      · simp only [UInt8.toNat_ofNat']
        omega

theorem decFrom_append (l : Bs) : ∀ (acc : Nat) (b : UInt8), Go.Lib.decFrom acc (l ++ [b]) = (Go.Lib.decFrom acc l).bind fun n => (Go.Lib.digitVal b).map fun d => n * 10 + d := by
  induction l with
  | nil => intro acc b; simp only [List.nil_append, Go.Lib.decFrom]; cases Go.Lib.digitVal b <;> rfl
  | cons a t ih =>
    intro acc b
    simp only [List.cons_append, Go.Lib.decFrom]
    cases Go.Lib.digitVal a with
    | none => rfl
    | some d => exact ih _ b

theorem digitVal_of {d : Nat} (h : d < 10) : Go.Lib.digitVal (UInt8.ofNat (48 + d)) = some d := by
  unfold Go.Lib.digitVal
  have e : (UInt8.ofNat (48 + d)).toNat = 48 + d := by simp only [UInt8.toNat_ofNat']; omega
  rw [e, if_pos (by omega)]
  congr 1; omega

theorem decFrom_dec (u : Nat) : Go.Lib.decFrom 0 (Go.Lib.decDigits u) = some u := by
  induction u using Nat.strongRecOn with
  | _ u ih =>
    rw [Go.Lib.decDigits]
    split
    · rename_i h
      have := decFrom_append [] 0 (UInt8.ofNat (48 + u))
      rw [List.nil_append] at this
      rw [this, digitVal_of h]
      simp [Go.Lib.decFrom]
    · rename_i h
      rw [decFrom_append, ih (u / 10) (by omega), digitVal_of (by omega)]
      simp
      omega

theorem dec_ne (u : Nat) : Go.Lib.decDigits u ≠ [] := by
  intro h
  have := Go.Lib.decDigits_length u
  rw [h] at this
  have := Go.Lib.nDigits_pos u
  simp at *
  omega

theorem decNat_dec (u : Nat) : Go.Lib.decNat (Go.Lib.decDigits u) = some u := by
  unfold Go.Lib.decNat
  have := dec_ne u
  rw [if_neg (by simpa using this)]
  exact decFrom_dec u

theorem nDigits_le {u k : Nat} (h : u < 10 ^ k) (hk : 1 ≤ k) : Go.Lib.nDigits u ≤ k := by
  induction k generalizing u with
  | zero => omega
  | succ k ih =>
    by_cases hu : u < 10
    · rw [Go.Lib.nDigits_small hu]; omega
    · rw [Go.Lib.nDigits_big hu]
      rw [Nat.pow_succ] at h
      have hk1 : 1 ≤ k := by
        rcases Nat.eq_zero_or_pos k with e | e
        · subst e; simp at h; omega
        · exact e
      have := ih (u := u / 10) (by omega) hk1
      omega

/-- The numeral of a number. -/
abbrev nm (n : Int) : Bs := Go.Lib.itoa n

theorem nm_nat {n : Int} (h : 0 ≤ n) : nm n = Go.Lib.decDigits n.toNat := by
  obtain ⟨u, rfl⟩ : ∃ u : Nat, n = (u : Int) := ⟨n.toNat, by omega⟩
  rw [nm, Go.Lib.itoa_nonneg]; simp

theorem nm_len {n : Int} (h : 0 ≤ n) (h1 : n < 1000000000000) : 1 ≤ (nm n).length ∧ (nm n).length ≤ 12 := by
  rw [nm_nat h, Go.Lib.decDigits_length]
  exact ⟨Go.Lib.nDigits_pos _, nDigits_le (by omega) (by omega)⟩

theorem nm_byte {n : Int} (h : 0 ≤ n) : ∀ c ∈ nm n, 48 ≤ c.toNat ∧ c.toNat ≤ 57 := by
  rw [nm_nat h]; exact dec_byte _

theorem nm_blank {n : Int} (h : 0 ≤ n) : ∀ c ∈ nm n, c ≠ 32 := fun c hc e => by
  have := nm_byte h c hc
  subst e
  revert this
  decide

theorem nm_dec {n : Int} (h : 0 ≤ n) : Go.Lib.decNat (nm n) = some n.toNat := by rw [nm_nat h]; exact decNat_dec _

theorem nm_atoi {n : Int} (h : 0 ≤ n) (h1 : n < 1000000000000) : Go.Lib.atoiAll (nm n) = .ok n := by
  have hl := nm_len h h1
  rw [Go.Lib.atoiAll_short _ (by omega)]
  have hd := nm_dec h
  have hb := nm_byte h
  revert hd hb hl
  cases nm n with
  | nil => intro hl; simp at hl
  | cons c r =>
    intro _ hd hb
    have := hb c (by simp)
    have c1 : (c == 45) = false := by
      simp only [beq_eq_false_iff_ne]; rintro rfl; revert this; decide
    have c2 : (c == 43) = false := by
      simp only [beq_eq_false_iff_ne]; rintro rfl; revert this; decide
    simp only [Go.Lib.atoi, c1, c2, hd]
    simp [Go.Lib.NumEnd.ofOption]
    omega

/-- What the reference takes for a number; -1: no number. -/
def valL (s : Bs) : Int := if s.length < 1 ∨ 12 < s.length then -1 else (match Go.Lib.decNat s with | some n => (n : Int) | none => -1)

theorem valL_nm {n : Int} (h : 0 ≤ n) (h1 : n < 1000000000000) : valL (nm n) = n := by
  have hl := nm_len h h1
  unfold valL
  rw [if_neg (by omega), nm_dec h]
  simp; omega

/-! Lines. -/

def voidL : Bs := [118, 111, 105, 100]
def saleL : Bs := [115, 97, 108, 101]
def rateL : Bs := [114, 97, 116, 101]
def allL : Bs := [97, 108, 108]
/-- The word of goods. -/
def goodsL (g : ByteArray) : Bs := if g = ⟨#[]⟩ then allL else g.data.toList

def wordsS (x : Sale) : List Bs :=
  if x.of_ ≠ 0 then [nm x.id, nm x.known, voidL, nm x.of_]
  else [nm x.id, nm x.known, nm x.hour, saleL, nm x.parcel, nm x.price, nm x.carter, nm x.keeper, nm x.since]
def wordsR (x : Rate) : List Bs :=
  if x.of_ ≠ 0 then [nm x.id, nm x.known, voidL, nm x.of_]
  else [nm x.id, nm x.known, rateL, nm x.from_, goodsL x.goods, nm x.finder.num, nm x.finder.den, nm x.cart, nm x.store]

/-- The bytes of a list. -/
abbrev ofL (l : Bs) : ByteArray := ⟨l.toArray⟩
def lineS (x : Sale) : ByteArray := ofL (lineL (wordsS x))
def lineR (x : Rate) : ByteArray := ofL (lineL (wordsR x))
def writeS (x : Sale) : ByteArray × Int := if saleOk x then (lineS x, 0) else (⟨#[]⟩, 1)
def writeR (x : Rate) : ByteArray × Int := if rateOk x then (lineR x, 0) else (⟨#[]⟩, 1)

/-- What a line reads as: the only record that is written so; else an error. -/
def ReadsS (line : ByteArray) (y : Sale) (e : Int) : Prop := (e = 0 ∧ saleOk y = true ∧ lineS y = line) ∨ (e = 4 ∧ y = zeroSale ∧ ∀ x, saleOk x = true → lineS x ≠ line)
def ReadsR (line : ByteArray) (y : Rate) (e : Int) : Prop := (e = 0 ∧ rateOk y = true ∧ lineR y = line) ∨ (e = 4 ∧ y = zeroRate ∧ ∀ x, rateOk x = true → lineR x ≠ line)

theorem readsS_exists (line : ByteArray) : ∃ y e, ReadsS line y e := by
  by_cases h : ∃ x, saleOk x = true ∧ lineS x = line
  · obtain ⟨x, h1, h2⟩ := h
    exact ⟨x, 0, .inl ⟨rfl, h1, h2⟩⟩
  · exact ⟨zeroSale, 4, .inr ⟨rfl, rfl, fun x h1 h2 => h ⟨x, h1, h2⟩⟩⟩
theorem readsR_exists (line : ByteArray) : ∃ y e, ReadsR line y e := by
  by_cases h : ∃ x, rateOk x = true ∧ lineR x = line
  · obtain ⟨x, h1, h2⟩ := h
    exact ⟨x, 0, .inl ⟨rfl, h1, h2⟩⟩
  · exact ⟨zeroRate, 4, .inr ⟨rfl, rfl, fun x h1 h2 => h ⟨x, h1, h2⟩⟩⟩

/-! Bounds of what is well-formed; a line tells its record. -/

theorem saleOk_all {x : Sale} (h : saleOk x = true) : (0 ≤ x.id ∧ x.id ≤ 1000000) ∧ (0 ≤ x.known ∧ x.known ≤ 1000000) ∧ (0 ≤ x.of_ ∧ x.of_ ≤ 1000000) ∧ (0 ≤ x.hour ∧ x.hour ≤ 1000000) ∧ (0 ≤ x.parcel ∧ x.parcel ≤ 10000007) ∧ (0 ≤ x.price ∧ x.price ≤ 1000000000) ∧ (0 ≤ x.carter ∧ x.carter ≤ 40) ∧ (0 ≤ x.keeper ∧ x.keeper ≤ 40) ∧ (0 ≤ x.since ∧ x.since ≤ 1000000) := by
  unfold saleOk at h
  by_cases h0 : x.of_ = 0
  · simp [inn, h0] at h
    omega
  · simp [inn, h0] at h
    obtain ⟨⟨h1, h2⟩, h3, h4⟩ := h
    have e1 := congrArg Sale.hour h4
    have e2 := congrArg Sale.parcel h4
    have e3 := congrArg Sale.price h4
    have e4 := congrArg Sale.carter h4
    have e5 := congrArg Sale.keeper h4
    have e6 := congrArg Sale.since h4
    simp only [zeroSale] at e1 e2 e3 e4 e5 e6
    omega

theorem saleOk_void {x : Sale} (h : saleOk x = true) (h0 : x.of_ ≠ 0) : x = { zeroSale with id := x.id, known := x.known, of_ := x.of_ } := by
  unfold saleOk at h
  simp only [ne_eq, h0, not_false_eq_true, if_true, Bool.and_eq_true, decide_eq_true_eq] at h
  exact h.2.2

theorem nm_inj {a b : Int} (ha : 0 ≤ a) (hb : 0 ≤ b) (h : nm a = nm b) : a = b := by
  have h1 := nm_dec ha
  rw [h, nm_dec hb] at h1
  injection h1 with h1
  omega

theorem word_blank_void : ∀ c ∈ voidL, c ≠ 32 := by decide
theorem word_blank_sale : ∀ c ∈ saleL, c ≠ 32 := by decide
theorem word_blank_rate : ∀ c ∈ rateL, c ≠ 32 := by decide
theorem word_blank_all : ∀ c ∈ allL, c ≠ 32 := by decide

theorem wordsS_blank {x : Sale} (h : saleOk x = true) : ∀ w ∈ wordsS x, ∀ c ∈ w, c ≠ 32 := by
  obtain ⟨h1, h2, h3, h4, h5, h6, h7, h8, h9⟩ := saleOk_all h
  unfold wordsS
  split
  · intro w hw
    simp only [List.mem_cons, List.not_mem_nil, or_false] at hw
    rcases hw with rfl | rfl | rfl | rfl
    · exact nm_blank h1.1
    · exact nm_blank h2.1
    · exact word_blank_void
    · exact nm_blank h3.1
  · intro w hw
    simp only [List.mem_cons, List.not_mem_nil, or_false] at hw
    rcases hw with rfl | rfl | rfl | rfl | rfl | rfl | rfl | rfl | rfl
    · exact nm_blank h1.1
    · exact nm_blank h2.1
    · exact nm_blank h4.1
    · exact word_blank_sale
    · exact nm_blank h5.1
    · exact nm_blank h6.1
    · exact nm_blank h7.1
    · exact nm_blank h8.1
    · exact nm_blank h9.1

theorem wordsS_ne (x : Sale) : wordsS x ≠ [] := by unfold wordsS; split <;> simp

theorem cutS {x : Sale} (h : saleOk x = true) : cutL (lineS x).data.toList = wordsS x := by
  have : (lineS x).data.toList = lineL (wordsS x) := by simp [lineS]
  rw [this, cutL_line _ (wordsS_ne x) (wordsS_blank h)]

theorem lineS_inj {x y : Sale} (hx : saleOk x = true) (hy : saleOk y = true) (h : lineS x = lineS y) : x = y := by
  have hw : wordsS x = wordsS y := by rw [← cutS hx, ← cutS hy, h]
  obtain ⟨h1, h2, h3, h4, h5, h6, h7, h8, h9⟩ := saleOk_all hx
  obtain ⟨g1, g2, g3, g4, g5, g6, g7, g8, g9⟩ := saleOk_all hy
  unfold wordsS at hw
  by_cases a : x.of_ = 0
  · by_cases b : y.of_ = 0
    · rw [if_neg (by simpa using a), if_neg (by simpa using b)] at hw
      simp only [List.cons.injEq, and_true, true_and] at hw
      obtain ⟨w1, w2, w3, w5, w6, w7, w8, w9⟩ := hw
      have e1 := nm_inj h1.1 g1.1 w1
      have e2 := nm_inj h2.1 g2.1 w2
      have e3 := nm_inj h4.1 g4.1 w3
      have e5 := nm_inj h5.1 g5.1 w5
      have e6 := nm_inj h6.1 g6.1 w6
      have e7 := nm_inj h7.1 g7.1 w7
      have e8 := nm_inj h8.1 g8.1 w8
      have e9 := nm_inj h9.1 g9.1 w9
      cases x; cases y
      simp only at e1 e2 e3 e5 e6 e7 e8 e9 a b
      subst e1 e2 e3 e5 e6 e7 e8 e9 a b
      rfl
    · rw [if_neg (by simpa using a), if_pos b] at hw
      have := congrArg List.length hw
      simp at this
  · by_cases b : y.of_ = 0
    · rw [if_pos a, if_neg (by simpa using b)] at hw
      have := congrArg List.length hw
      simp at this
    · rw [if_pos a, if_pos b] at hw
      simp only [List.cons.injEq, and_true, true_and] at hw
      obtain ⟨w1, w2, w3⟩ := hw
      rw [saleOk_void hx a, saleOk_void hy b, nm_inj h1.1 g1.1 w1, nm_inj h2.1 g2.1 w2, nm_inj h3.1 g3.1 w3]

theorem readsS_unique {line : ByteArray} {y z : Sale} {e f : Int} (h : ReadsS line y e) (g : ReadsS line z f) : y = z ∧ e = f := by
  rcases h with ⟨rfl, h1, h2⟩ | ⟨rfl, rfl, h2⟩
  · rcases g with ⟨rfl, g1, g2⟩ | ⟨rfl, rfl, g2⟩
    · exact ⟨lineS_inj h1 g1 (h2.trans g2.symm), rfl⟩
    · exact absurd h2 (g2 y h1)
  · rcases g with ⟨rfl, g1, g2⟩ | ⟨rfl, rfl, g2⟩
    · exact absurd g2 (h2 z g1)
    · exact ⟨rfl, rfl⟩

theorem rateOk_all {x : Rate} (h : rateOk x = true) : (0 ≤ x.id ∧ x.id ≤ 1000000) ∧ (0 ≤ x.known ∧ x.known ≤ 1000000) ∧ (0 ≤ x.of_ ∧ x.of_ ≤ 1000000) ∧ (0 ≤ x.from_ ∧ x.from_ ≤ 1000000) ∧ (0 ≤ x.finder.num ∧ x.finder.num ≤ 1000000) ∧ (0 ≤ x.finder.den ∧ x.finder.den ≤ 1000000) ∧ (0 ≤ x.cart ∧ x.cart ≤ 100000) ∧ (0 ≤ x.store ∧ x.store ≤ 100000) ∧ (x.of_ = 0 → goodsOk x.goods = true) := by
  unfold rateOk at h
  by_cases h0 : x.of_ = 0
  · simp [inn, h0, partOk] at h
    obtain ⟨h1, ⟨⟨⟨⟨h2, hg⟩, h3⟩, h4⟩, h5⟩⟩ := h
    refine ⟨by omega, by omega, by omega, by omega, by omega, by omega, by omega, by omega, fun _ => hg⟩
  · simp [inn, h0] at h
    obtain ⟨⟨h1, h2⟩, h3, h4⟩ := h
    have e1 := congrArg Rate.from_ h4
    have e2 := congrArg Rate.finder h4
    have e3 := congrArg Rate.cart h4
    have e4 := congrArg Rate.store h4
    simp only [zeroRate] at e1 e2 e3 e4
    have e5 := congrArg Frac.num e2
    have e6 := congrArg Frac.den e2
    simp only at e5 e6
    refine ⟨by omega, by omega, by omega, by omega, by omega, by omega, by omega, by omega, fun e => absurd e h0⟩

theorem rateOk_void {x : Rate} (h : rateOk x = true) (h0 : x.of_ ≠ 0) : x = { zeroRate with id := x.id, known := x.known, of_ := x.of_ } := by
  unfold rateOk at h
  simp only [ne_eq, h0, not_false_eq_true, if_true, Bool.and_eq_true, decide_eq_true_eq] at h
  exact h.2.2

theorem chOk_blank {c : UInt8} (h : chOk c = true) : c ≠ 32 := by
  rintro rfl
  revert h
  decide

theorem goodsL_blank {g : ByteArray} (h : goodsOk g = true) : ∀ c ∈ goodsL g, c ≠ 32 := by
  unfold goodsL
  split
  · exact word_blank_all
  · rename_i hg
    simp only [goodsOk, hg, decide_false, Bool.false_or, Bool.and_eq_true, nameOk, List.all_eq_true] at h
    exact fun c hc => chOk_blank (h.1.2 c hc)

theorem goodsL_inj {a b : ByteArray} (ha : goodsOk a = true) (hb : goodsOk b = true) (h : goodsL a = goodsL b) : a = b := by
  have key : ∀ {g : ByteArray}, goodsOk g = true → g ≠ ⟨#[]⟩ → g.data.toList ≠ allL := fun {g} hg hne e => by
    simp only [goodsOk, hne, decide_false, Bool.false_or, Bool.and_eq_true, Bool.not_eq_true', decide_eq_false_iff_not] at hg
    apply hg.2
    obtain ⟨⟨l⟩⟩ := g
    simp only at e
    rw [e]; rfl
  unfold goodsL at h
  by_cases a0 : a = ⟨#[]⟩
  · by_cases b0 : b = ⟨#[]⟩
    · rw [a0, b0]
    · rw [if_pos a0, if_neg b0] at h
      exact absurd h.symm (key hb b0)
  · by_cases b0 : b = ⟨#[]⟩
    · rw [if_neg a0, if_pos b0] at h
      exact absurd h (key ha a0)
    · rw [if_neg a0, if_neg b0] at h
      obtain ⟨⟨la⟩⟩ := a
      obtain ⟨⟨lb⟩⟩ := b
      simp only at h
      rw [h]

theorem wordsR_blank {x : Rate} (h : rateOk x = true) : ∀ w ∈ wordsR x, ∀ c ∈ w, c ≠ 32 := by
  obtain ⟨h1, h2, h3, h4, h5, h6, h7, h8, h9⟩ := rateOk_all h
  unfold wordsR
  split
  · intro w hw
    simp only [List.mem_cons, List.not_mem_nil, or_false] at hw
    rcases hw with rfl | rfl | rfl | rfl
    · exact nm_blank h1.1
    · exact nm_blank h2.1
    · exact word_blank_void
    · exact nm_blank h3.1
  · rename_i h0
    intro w hw
    simp only [List.mem_cons, List.not_mem_nil, or_false] at hw
    rcases hw with rfl | rfl | rfl | rfl | rfl | rfl | rfl | rfl | rfl
    · exact nm_blank h1.1
    · exact nm_blank h2.1
    · exact word_blank_rate
    · exact nm_blank h4.1
    · exact goodsL_blank (h9 (by simpa using h0))
    · exact nm_blank h5.1
    · exact nm_blank h6.1
    · exact nm_blank h7.1
    · exact nm_blank h8.1

theorem wordsR_ne (x : Rate) : wordsR x ≠ [] := by unfold wordsR; split <;> simp

theorem cutR {x : Rate} (h : rateOk x = true) : cutL (lineR x).data.toList = wordsR x := by
  have : (lineR x).data.toList = lineL (wordsR x) := by simp [lineR]
  rw [this, cutL_line _ (wordsR_ne x) (wordsR_blank h)]

theorem lineR_inj {x y : Rate} (hx : rateOk x = true) (hy : rateOk y = true) (h : lineR x = lineR y) : x = y := by
  have hw : wordsR x = wordsR y := by rw [← cutR hx, ← cutR hy, h]
  obtain ⟨h1, h2, h3, h4, h5, h6, h7, h8, h9⟩ := rateOk_all hx
  obtain ⟨g1, g2, g3, g4, g5, g6, g7, g8, g9⟩ := rateOk_all hy
  unfold wordsR at hw
  by_cases a : x.of_ = 0
  · by_cases b : y.of_ = 0
    · rw [if_neg (by simpa using a), if_neg (by simpa using b)] at hw
      simp only [List.cons.injEq, and_true, true_and] at hw
      obtain ⟨w1, w2, w3, w4, w5, w6, w7, w8⟩ := hw
      have e1 := nm_inj h1.1 g1.1 w1
      have e2 := nm_inj h2.1 g2.1 w2
      have e3 := nm_inj h4.1 g4.1 w3
      have e4 := goodsL_inj (h9 a) (g9 b) w4
      have e5 := nm_inj h5.1 g5.1 w5
      have e6 := nm_inj h6.1 g6.1 w6
      have e7 := nm_inj h7.1 g7.1 w7
      have e8 := nm_inj h8.1 g8.1 w8
      obtain ⟨i1, i2, i3, i4, ⟨i5, i6⟩, i7, i8, i9⟩ := x
      obtain ⟨j1, j2, j3, j4, ⟨j5, j6⟩, j7, j8, j9⟩ := y
      simp only at e1 e2 e3 e4 e5 e6 e7 e8 a b
      subst e1 e2 e3 e4 e5 e6 e7 e8 a b
      rfl
    · rw [if_neg (by simpa using a), if_pos b] at hw
      have := congrArg List.length hw
      simp at this
  · by_cases b : y.of_ = 0
    · rw [if_pos a, if_neg (by simpa using b)] at hw
      have := congrArg List.length hw
      simp at this
    · rw [if_pos a, if_pos b] at hw
      simp only [List.cons.injEq, and_true, true_and] at hw
      obtain ⟨w1, w2, w3⟩ := hw
      rw [rateOk_void hx a, rateOk_void hy b, nm_inj h1.1 g1.1 w1, nm_inj h2.1 g2.1 w2, nm_inj h3.1 g3.1 w3]

theorem readsR_unique {line : ByteArray} {y z : Rate} {e f : Int} (h : ReadsR line y e) (g : ReadsR line z f) : y = z ∧ e = f := by
  rcases h with ⟨rfl, h1, h2⟩ | ⟨rfl, rfl, h2⟩
  · rcases g with ⟨rfl, g1, g2⟩ | ⟨rfl, rfl, g2⟩
    · exact ⟨lineR_inj h1 g1 (h2.trans g2.symm), rfl⟩
    · exact absurd h2 (g2 y h1)
  · rcases g with ⟨rfl, g1, g2⟩ | ⟨rfl, rfl, g2⟩
    · exact absurd g2 (h2 z g1)
    · exact ⟨rfl, rfl⟩

end Lg

/-
  Walks: numerals, as the reference writes them.
-/
namespace Go.Proofs.YtkeppoiomjhkpaaGreatDoor
open Go.RowKit Lg Go.Sort

theorem nm_small {n : Int} (h0 : 0 ≤ n) (h : n < 10) : nm n = [UInt8.ofNat (48 + n.toNat)] := by
  rw [nm_nat h0, Go.Lib.decDigits, dif_pos (by omega)]

theorem nm_big {n : Int} (h0 : 0 ≤ n) (h : ¬ n < 10) : nm n = nm (n / 10) ++ nm (n % 10) := by
  rw [nm_nat h0, Go.Lib.decDigits, dif_neg (by omega), nm_nat (show (0 : Int) ≤ n / 10 by omega), nm_small (show (0 : Int) ≤ n % 10 by omega) (by omega)]
  congr 2
  · omega
  · congr 2; omega

theorem ofL_append (a b : Bs) : ofL a ++ ofL b = ofL (a ++ b) := by
  apply ByteArray.ext
  simp [ofL]

theorem ofL_size (a : Bs) : (ofL a).size = a.length := rfl

set_option maxRecDepth 100000 in
set_option maxHeartbeats 1600000 in
theorem digits_small (n : Int) (h0 : 0 ≤ n) (h : n < 10) (w : World) : Calls Tryz.prog 48 #[.int .i64 n] w (Gives w (.string (ofL (nm n)))) := by
  have hb : ((UInt8.ofNat (48 + n.toNat)).toNat : Int) = 48 + n := by simp only [UInt8.toNat_ofNat']; omega
  have hk : Blk (w.alloc (.cells #[.int .u8 (48 + n)] 5)) w.heap.size #[.int .u8 (48 + n)] 5 := Blk.new w _ _
  have hcv : (convert 128 9 (.slice (some ⟨w.heap.size, 0, none⟩) 1 1)).run Tryz.prog (w.alloc (.cells #[.int .u8 (48 + n)] 5)) = .ok (.string (ofL (nm n))) (w.alloc (.cells #[.int .u8 (48 + n)] 5)) := by
    rw [nm_small h0 h]
    refine run_convert_bytes_back (P := Tryz.prog) (w.alloc (.cells #[.int .u8 (48 + n)] 5)) 128 9 5 ⟨w.heap.size, 0, none⟩ 1 [UInt8.ofNat (48 + n.toNat)] (Tryz.underlying128) (Tryz.underlying5) (Tryz.underlying9) ?_
    intro j hj
    have : j = 0 := by simp at hj; exact hj
    subst this
    simp only [List.getElem_cons_zero, hb]
    exact hk.cell 0
  have hB : RowKit.Below w.heap.size w (w.alloc (.cells #[.int .u8 (48 + n)] 5)) := (Below.refl _ w).alloc (Nat.le_refl _) _
  clear hb hk
  generalize ofL (nm n) = r at *
  go_enter Tryz.func48, Tryz.ntmps48
  go_wp2_with (fail)
  go_ret
  exact ⟨rfl, hB⟩

set_option maxRecDepth 100000 in
set_option maxHeartbeats 1600000 in
theorem digits_any (k : Nat) : ∀ (n : Int) (w : World), 0 ≤ n → n < 10 ^ (k + 1) → n < 1000000000000 → Calls Tryz.prog 48 #[.int .i64 n] w (Gives w (.string (ofL (nm n)))) := by
  induction k with
  | zero => intro n w h0 h1 _; exact digits_small n h0 (by simpa using h1) w
  | succ k ih =>
    intro n w h0 h1 hm
    by_cases h : n < 10
    · exact digits_small n h0 h w
    have i1 := fun W => ih (n / 10) W (by omega) (by rw [Int.pow_succ] at h1; omega) (by omega)
    have i2 := fun W => digits_small (n % 10) (by omega) (by omega) W
    have l1 := nm_len (show (0 : Int) ≤ n / 10 by omega) (by omega)
    have l2 := nm_len (show (0 : Int) ≤ n % 10 by omega) (by omega)
    have hs : (ofL (nm (n / 10))).size + (ofL (nm (n % 10))).size ≤ 9223372036854775807 := by rw [ofL_size, ofL_size]; omega
    have hsum : ofL (nm n) = ofL (nm (n / 10)) ++ ofL (nm (n % 10)) := by rw [nm_big h0 h, ofL_append]
    have hadd := fun W => run_string_add_sum (P := Tryz.prog) W (ofL (nm (n / 10))) (ofL (nm (n % 10))) hs
    rw [hsum]
    clear hsum hs l1 l2 h1 ih
    generalize ofL (nm (n / 10)) = r1 at *
    generalize ofL (nm (n % 10)) = r2 at *
    go_enter Tryz.func48, Tryz.ntmps48
    go_wp2_with (fail)
    refine (i1 _).mono ?_
    rintro e w1 ⟨rfl, hB1⟩
    go_wp2_with (fail)
    refine (i2 _).mono ?_
    rintro e w2 ⟨rfl, hB2⟩
    go_wp2_with (fail)
    go_ret
    exact ⟨rfl, hB1.trans (hB2.mono hB1.size)⟩

/-- Numerals, each behind a blank. -/
def numsL : List Int → Bs
  | [] => []
  | n :: r => 32 :: nm n ++ numsL r

theorem numsL_append (a b : List Int) : numsL (a ++ b) = numsL a ++ numsL b := by
  induction a with
  | nil => rfl
  | cons n r ih => simp [numsL, ih]

theorem numsL_len (l : List Int) (h : ∀ n ∈ l, 0 ≤ n ∧ n < 1000000000000) : (numsL l).length ≤ 13 * l.length := by
  induction l with
  | nil => simp [numsL]
  | cons n r ih =>
    have := nm_len (h n (by simp)).1 (h n (by simp)).2
    have := ih (fun m hm => h m (by simp [hm]))
    simp [numsL]; omega

set_option maxRecDepth 100000 in
set_option maxHeartbeats 1600000 in
theorem numbers_any (a : Option Addr) (n cap : Nat) (xs : List Int) (w : World) (hn : n ≤ 10) (hx : ∀ x ∈ xs, 0 ≤ x ∧ x < 1000000000000) (hL : Lst w 1 cI a n cap xs) :
    Calls Tryz.prog 49 #[.slice a n cap] w (Gives w (.string (ofL (numsL xs)))) := by
  have hma : cap ≤ 9223372036854775807 := by have := hL.max; unfold maxLen at this; omega
  have hlea := hL.le
  go_enter Tryz.func49, Tryz.ntmps49
  go_wp2_with (fail)
  go_loopw [3, 4] (fun s i wr => ∃ k : Nat, k ≤ n ∧ i = .int .i64 k ∧ s = .string (ofL (numsL (xs.take k))) ∧ RowKit.Below w.heap.size w wr) (fun _ i _ => n - (intOf i).toNat)
  case atStart => exact ⟨0, Nat.zero_le _, rfl, rfl, Below.refl _ _⟩
  case round =>
    obtain ⟨k, hk, rfl, rfl, hB⟩ := hrel
    by_cases hlt : k < n
    · have hltz : (k : Int) < (n : Int) := by omega
      obtain ⟨x, hxk⟩ : ∃ x, xs[k]? = some x := ⟨xs[k]'(by rw [hL.len]; exact hlt), by simp⟩
      obtain ⟨b1, o1, rfl, hb1, hr1⟩ := hL.at_ k x hxk
      have l1 := rangeAt_below hB hb1 hr1 0 _ rfl
      simp only [Nat.mul_one, Nat.add_zero] at l1
      have hx1 := hx x (List.mem_of_getElem? hxk)
      have hd := fun W => digits_any 11 x W hx1.1 (by have := hx1.2; simpa using this) hx1.2
      have hlen1 := numsL_len (xs.take k) (fun y hy => hx y (List.mem_of_mem_take hy))
      rw [List.length_take] at hlen1
      have hlen2 := nm_len hx1.1 hx1.2
      have s1 : (ofL (numsL (xs.take k))).size + (⟨#[32]⟩ : ByteArray).size ≤ 9223372036854775807 := by rw [ofL_size]; show _ + 1 ≤ _; omega
      have a1 := fun W => run_string_add_sum (P := Tryz.prog) W (ofL (numsL (xs.take k))) ⟨#[32]⟩ s1
      have e1 : ofL (numsL (xs.take k)) ++ ⟨#[32]⟩ = ofL (numsL (xs.take k) ++ [32]) := ofL_append _ [32]
      rw [e1] at a1
      have s2 : (ofL (numsL (xs.take k) ++ [32])).size + (ofL (nm x)).size ≤ 9223372036854775807 := by rw [ofL_size, ofL_size, List.length_append]; show _ + 1 + _ ≤ _; omega
      have a2 := fun W => run_string_add_sum (P := Tryz.prog) W (ofL (numsL (xs.take k) ++ [32])) (ofL (nm x)) s2
      have e2 : ofL (numsL (xs.take k) ++ [32]) ++ ofL (nm x) = ofL (numsL (xs.take (k + 1))) := by
        rw [ofL_append]
        obtain ⟨h1, h2⟩ := List.getElem?_eq_some_iff.1 hxk
        rw [List.take_succ_eq_append_getElem h1, h2, numsL_append]
        simp [numsL]
      rw [e2] at a2
      clear hx e1 e2 s1 s2 hlen1 hlen2 hx1 hr1 hxk
      generalize ofL (numsL (xs.take k)) = r0 at *
      generalize ofL (numsL (xs.take k) ++ [32]) = r1 at *
      generalize hr2 : ofL (numsL (xs.take (k + 1))) = r2 at *
      have Hr2 := Lib.hid hr2
      clear hr2
      generalize ofL (nm x) = rx at *
      go_wp2_with (fail)
      refine (hd _).mono ?_
      rintro e w2 ⟨rfl, hB2⟩
      have hB3 := hB.trans (hB2.mono hB.size)
      clear hd
      go_wp2_with (fail)
      go_roundw
      case rel => exact ⟨k + 1, by omega, by go_num, by rw [Hr2.out], hB3⟩
      case measure => simp [intOf]; omega
    · obtain rfl : k = n := by omega
      rw [List.take_of_length_le (by rw [hL.len]; exact Nat.le_refl _)]
      clear hx
      generalize ofL (numsL xs) = r0 at *
      go_wp2_with (fail)
      go_ret
      exact ⟨rfl, hB⟩

end Go.Proofs.YtkeppoiomjhkpaaGreatDoor

/-
  Walks of small functions of the reference.
-/
namespace Go.Proofs.YtkeppoiomjhkpaaGreatDoor
open Go.RowKit Lg

theorem within6_any (a b c : Int) (w : World) :
    Calls Tryz.prog 56 #[.int .i64 a, .int .i64 b, .int .i64 c] w fun e w' => e = .returned (.bool (inn a b c)) ∧ w = w' := by
  go_enter Tryz.func56, Tryz.ntmps56
  go_wp2
  all_goals (go_ret; exact ⟨by simp [inn, *] <;> omega, rfl⟩)

end Go.Proofs.YtkeppoiomjhkpaaGreatDoor

/-
  Walks of small functions: ranges, heads.
-/
namespace Go.Proofs.YtkeppoiomjhkpaaGreatDoor
open Go.RowKit Lg

theorem in6_any (a b c : Int) (w : World) :
    Calls Tryz.prog 55 #[.int .i64 a, .int .i64 b, .int .i64 c] w fun e w' => e = .returned (.bool (inn a b c)) ∧ w = w' := by
  go_enter Tryz.func55, Tryz.ntmps55
  go_wp2
  all_goals (go_ret; exact ⟨by simp [inn, *] <;> omega, rfl⟩)

theorem within5_any (a b c : Int) (w : World) :
    Calls Tryz.prog 103 #[.int .i64 a, .int .i64 b, .int .i64 c] w fun e w' => e = .returned (.bool (inn a b c)) ∧ w = w' := by
  go_enter Tryz.func103, Tryz.ntmps103
  go_wp2
  all_goals (go_ret; exact ⟨by simp [inn, *] <;> omega, rfl⟩)

set_option maxRecDepth 100000 in
set_option maxHeartbeats 400000 in
theorem headR_any (x : Rate) (w : World) :
    Calls Tryz.prog 87 #[aR x] w (Gives w (aH x.head)) := by
  have hta : ∀ (v : Value) (w : World), (Instr.typeAssert (.iface 43 v) 20 43 true).run Tryz.prog w = .ok (.tuple #[v, .bool true]) w := fun _ _ => by kernel_rfl
  go_enter Tryz.func87, Tryz.ntmps87
  go_wp2
  refine bodyPost_ret (v := aH x.head) (by simp [results, Tryz.results87, go_sem, Rate.head]) rfl ⟨rfl, ?_⟩
  repeat (first | exact Below.refl _ _ | refine Below.alloc ?_ (by simp <;> omega) _ | refine Below.setCell ?_ (by simp) _ | refine Below.drew ?_)

set_option maxRecDepth 100000 in
set_option maxHeartbeats 400000 in
theorem headS_any (x : Sale) (w : World) :
    Calls Tryz.prog 114 #[aS x] w (Gives w (aH x.head)) := by
  have hta : ∀ (v : Value) (w : World), (Instr.typeAssert (.iface 24 v) 20 24 true).run Tryz.prog w = .ok (.tuple #[v, .bool true]) w := fun _ _ => by kernel_rfl
  have htb : ∀ (v : Value) (w : World), (Instr.typeAssert (.iface 24 v) 20 43 true).run Tryz.prog w = .ok (.tuple #[.agg #[.int .i64 0, .int .i64 0, .int .i64 0, .string ⟨#[]⟩, .int .i64 0, .int .i64 0, .int .i64 0, .int .i64 0, .int .i64 0], .bool false]) w := fun _ _ => by kernel_rfl
  go_enter Tryz.func114, Tryz.ntmps114
  go_wp2
  refine bodyPost_ret (v := aH x.head) (by simp [results, Tryz.results114, go_sem, Sale.head]) rfl ⟨rfl, ?_⟩
  repeat (first | exact Below.refl _ _ | refine Below.alloc ?_ (by simp <;> omega) _ | refine Below.setCell ?_ (by simp) _ | refine Below.drew ?_)
end Go.Proofs.YtkeppoiomjhkpaaGreatDoor

/-
  Walks: greatest common divisors.
-/
namespace Go.Proofs.YtkeppoiomjhkpaaGreatDoor
open Go.RowKit Lg Go.Sort

set_option maxHeartbeats 400000 in
theorem divisor_any (a b : Int) (w : World) (ha : -4000000000000000000 ≤ a ∧ a ≤ 4000000000000000000) (hb : -4000000000000000000 ≤ b ∧ b ≤ 4000000000000000000) :
    Calls Tryz.prog 139 #[.int .i64 a, .int .i64 b] w fun e w' => e = .returned (.int .i64 (Int.gcd a b)) ∧ Below w.heap.size w w' := by
  obtain ⟨g, hg⟩ : ∃ g, g = Int.gcd a b := ⟨_, rfl⟩
  rw [← hg]
  go_enter Tryz.func139, Tryz.ntmps139
  go_wp2
  go_loopw [0, 1] (fun t u wr => ∃ x y : Int, t = .int .i64 x ∧ u = .int .i64 y ∧ -4000000000000000000 ≤ x ∧ x ≤ 4000000000000000000 ∧ -4000000000000000000 ≤ y ∧ y ≤ 4000000000000000000 ∧ Hid (Int.gcd x y = g) ∧ Below w.heap.size w wr) (fun _ u _ => (intOf u).natAbs)
  case atStart => exact ⟨a, b, rfl, rfl, ha.1, ha.2, hb.1, hb.2, hg.symm, Below.refl _ _⟩
  case round =>
    obtain ⟨x, y, rfl, rfl, h1, h2, h3, h4, hG, hB⟩ := hrel
    clear hg
    by_cases hy : y = 0
    · subst hy
      go_wp2
      all_goals
        go_ret
        refine ⟨ret_int ?_, hB⟩
        have := hG.out
        rw [Int.gcd_zero_right] at this
        omega
    · have e1 : (y != 0) = true := by simpa using hy
      have hlt := tmod_lt x y hy
      have h6 := tmod_bd x y 4000000000000000000 ⟨h1, h2⟩
      have hs : Hid (Int.gcd y (x.tmod y) = g) := (gcd_step x y).trans hG.out
      have HL := Lib.hid hlt; clear hlt
      go_wp2
      go_quiet (fail)
      go_wp2
      go_roundw
      case rel => exact ⟨y, _, rfl, rfl, h3, h4, h6.1, h6.2, hs, ⟨hB.os, hB.tape, hB.output, hB.size, hB.block⟩⟩
      case measure => exact HL.out

end Go.Proofs.YtkeppoiomjhkpaaGreatDoor

/-
  Walks: the divisors of the reference.
-/
namespace Go.Proofs.YtkeppoiomjhkpaaGreatDoor
open Go.RowKit Lg Go.Sort

set_option maxHeartbeats 400000 in
theorem common_any (a b : Int) (w : World) (ha : 0 ≤ a ∧ a ≤ 4000000000000000000) (hb : 0 ≤ b ∧ b ≤ 4000000000000000000) :
    Calls Tryz.prog 95 #[.int .i64 a, .int .i64 b] w fun e w' => e = .returned (.int .i64 (Int.gcd a b)) ∧ w = w' := by
  obtain ⟨g, hg⟩ : ∃ g, g = Int.gcd a b := ⟨_, rfl⟩
  rw [← hg]
  go_enter Tryz.func95, Tryz.ntmps95
  go_wp2
  go_loop [0, 1] (fun t u => ∃ x y : Int, t = .int .i64 x ∧ u = .int .i64 y ∧ 0 ≤ x ∧ x ≤ 4000000000000000000 ∧ 0 ≤ y ∧ y ≤ 4000000000000000000 ∧ Hid (Int.gcd x y = g)) (fun _ u => (intOf u).natAbs)
  case atStart => exact ⟨a, b, rfl, rfl, ha.1, ha.2, hb.1, hb.2, hg.symm⟩
  case round =>
    obtain ⟨x, y, rfl, rfl, h1, h2, h3, h4, hG⟩ := hrel
    clear hg
    by_cases hy : y = 0
    · subst hy
      go_wp2
      go_ret
      refine ⟨ret_int ?_, rfl⟩
      have := hG.out
      rw [Int.gcd_zero_right] at this
      omega
    · have e1 : (y != 0) = true := by simpa using hy
      have hlt := tmod_lt x y hy
      have h5 := Int.tmod_nonneg y h1
      have h6 := tmod_bd x y 4000000000000000000 ⟨by omega, h2⟩
      have hs : Hid (Int.gcd y (x.tmod y) = g) := (gcd_step x y).trans hG.out
      rw [Int.tmod_eq_emod_of_nonneg h1] at hlt h5 h6 hs
      have HL := Lib.hid hlt; clear hlt
      go_wp2
      go_round
      case rel => exact ⟨y, _, rfl, rfl, h3, h4, h5, h6.2, hs⟩
      case measure => exact HL.out

end Go.Proofs.YtkeppoiomjhkpaaGreatDoor
