import Derived.Test.YtmeomhojbobpbaaGreatDoorPart07
import Derived.Test.YtmeomhojbobpbaaGreatDoorPart02
import Derived.Lib.AtoiAll
import Derived.Test.YtmeomhojbobpbaaGreatDoorPart06
import Derived.Test.YtmeomhojbobpbaaGreatDoorPart03
import Derived.Laws.StructEq
import Derived.StillTailTactics
import Derived.Test.YtmeomhojbobpbaaGreatDoorPart05
import Derived.Test.YtmeomhojbobpbaaGreatDoorPart01
import Derived.Lib.Hide
import Derived.BigRegion
import Derived.BigQuiet
/-
  Plain: the lines of deeds, written and read.
-/
namespace Lg
open Go

def paidL : Bs := [112, 97, 105, 100]
def soldL : Bs := [115, 111, 108, 100]
def leftL : Bs := [108, 101, 102, 116]
def claimL : Bs := [99, 108, 97, 105, 109]
def withdrawL : Bs := [119, 105, 116, 104, 100, 114, 97, 119]
/-- The word of a kind. -/
def wordK (k : Int) : Bs := if k = 1 then paidL else if k = 2 then soldL else if k = 3 then leftL else if k = 4 then claimL else if k = 5 then withdrawL else if k = 6 then voidL else []
def headN (x : Deed) : List Int := if x.kind = 6 then [x.id, x.known] else [x.id, x.known, x.hour]
def tailN (x : Deed) : List Int :=
  if x.kind = 3 then [x.loss, x.pack, x.from_, x.to_] else if x.kind = 4 then [x.loss, x.pack, x.from_] else if x.kind = 5 ∨ x.kind = 6 then [x.of_]
  else [x.loss, x.pack, x.from_, x.to_, x.share.num, x.share.den]
def wordsD (x : Deed) : List Bs := (headN x).map nm ++ wordK x.kind :: (tailN x).map nm
def lineD (x : Deed) : ByteArray := ofL (lineL (wordsD x))
def writeD (x : Deed) : ByteArray × Int := if formedD x then (lineD x, 0) else (⟨#[]⟩, 1)

/-- The number that strconv.Atoi hands back, whatever the error beside it. -/
def atoiV (s : Bs) : Int := match Go.Lib.atoiAll s with | .ok v => v | .syntax => 0 | .range => Go.Lib.atoiSat s
def numD (ws : List Bs) (i : Nat) : Int := match ws[i]? with | some s => atoiV s | none => 0
def kindOf (w : Bs) : Int := if w = paidL then 1 else if w = soldL then 2 else if w = leftL then 3 else if w = claimL then 4 else if w = withdrawL then 5 else if w = voidL then 6 else 0
def atD (ws : List Bs) : Nat := if ws[2]? = some voidL then 2 else 3
/-- What the words of a line may say. -/
def parseD (ws : List Bs) : Deed :=
  if ws.length ≤ atD ws then ⟨numD ws 0, numD ws 1, if atD ws = 3 then numD ws 2 else 0, 0, 0, 0, 0, 0, ⟨0, 0⟩, 0⟩
  else if kindOf (ws.getD (atD ws) []) = 5 ∨ kindOf (ws.getD (atD ws) []) = 6 then ⟨numD ws 0, numD ws 1, if atD ws = 3 then numD ws 2 else 0, kindOf (ws.getD (atD ws) []), 0, 0, 0, 0, ⟨0, 0⟩, numD ws (atD ws + 1)⟩
  else ⟨numD ws 0, numD ws 1, if atD ws = 3 then numD ws 2 else 0, kindOf (ws.getD (atD ws) []), numD ws (atD ws + 1), numD ws (atD ws + 2), numD ws (atD ws + 3), if kindOf (ws.getD (atD ws) []) = 4 then 0 else numD ws (atD ws + 4),
    if kindOf (ws.getD (atD ws) []) = 1 ∨ kindOf (ws.getD (atD ws) []) = 2 then ⟨numD ws (atD ws + 5), numD ws (atD ws + 6)⟩ else ⟨0, 0⟩, 0⟩
def readD (line : ByteArray) : Deed × Int :=
  if formedD (parseD (cutL line.data.toList)) = true ∧ lineD (parseD (cutL line.data.toList)) = line then (parseD (cutL line.data.toList), 0) else (zeroDeed, 4)
/-- What a line reads as: the only deed that is written so; else an error. -/
def ReadsD (line : ByteArray) (y : Deed) (e : Int) : Prop := (e = 0 ∧ formedD y = true ∧ lineD y = line) ∨ (e = 4 ∧ y = zeroDeed ∧ ∀ x, formedD x = true → lineD x ≠ line)

/-- The bounds of a well-formed deed, and what its kind leaves out. -/
theorem formedD_all {x : Deed} (h : formedD x = true) : (1 ≤ x.id ∧ x.id ≤ 1000000) ∧ (0 ≤ x.known ∧ x.known ≤ 1000000) ∧ (0 ≤ x.hour ∧ x.hour ≤ 1000000) ∧ (0 ≤ x.loss ∧ x.loss ≤ 20) ∧ (0 ≤ x.pack ∧ x.pack ≤ 200) ∧ (0 ≤ x.from_ ∧ x.from_ ≤ 40) ∧ (0 ≤ x.to_ ∧ x.to_ ≤ 40) ∧
    (0 ≤ x.share.num ∧ x.share.num ≤ 1000000) ∧ (0 ≤ x.share.den ∧ x.share.den ≤ 1000000) ∧ (0 ≤ x.of_ ∧ x.of_ ≤ 1000000) ∧ (1 ≤ x.kind ∧ x.kind ≤ 6) ∧ (x.kind = 6 → x.hour = 0) ∧ restD x = zeroDeed := by
  unfold formedD at h
  simp only [Bool.and_eq_true, inn_iff, decide_eq_true_eq] at h
  obtain ⟨⟨⟨⟨h1, h2⟩, h3⟩, h4⟩, h5⟩ := h
  have h5' := h5
  unfold fineD packOk at h4
  unfold restD at h5
  by_cases c1 : x.kind = 1 ∨ x.kind = 2
  · rw [if_pos c1] at h4 h5
    simp only [Bool.and_eq_true, inn_iff, decide_eq_true_eq] at h4
    have e1 := congrArg Deed.of_ h5
    simp only [zeroDeed] at e1
    have e2 := validF_ok h4.1.1.2
    unfold frOk at e2
    exact ⟨h1, h2, h3, by omega, by omega, by omega, by omega, by omega, by omega, by omega, by omega, by omega, h5'⟩
  rw [if_neg c1] at h4 h5
  by_cases c2 : x.kind = 3
  · rw [if_pos c2] at h4 h5
    simp only [Bool.and_eq_true, inn_iff] at h4
    have e1 := congrArg Deed.of_ h5
    have e2 := congrArg (fun z : Deed => z.share.num) h5
    have e3 := congrArg (fun z : Deed => z.share.den) h5
    simp only [zeroDeed] at e1 e2 e3
    exact ⟨h1, h2, h3, by omega, by omega, by omega, by omega, by omega, by omega, by omega, by omega, by omega, h5'⟩
  rw [if_neg c2] at h4 h5
  by_cases c3 : x.kind = 4
  · rw [if_pos c3] at h4 h5
    simp only [Bool.and_eq_true, inn_iff] at h4
    have e1 := congrArg Deed.of_ h5
    have e2 := congrArg (fun z : Deed => z.share.num) h5
    have e3 := congrArg (fun z : Deed => z.share.den) h5
    have e4 := congrArg Deed.to_ h5
    simp only [zeroDeed] at e1 e2 e3 e4
    exact ⟨h1, h2, h3, by omega, by omega, by omega, by omega, by omega, by omega, by omega, by omega, by omega, h5'⟩
  rw [if_neg c3] at h4 h5
  by_cases c4 : x.kind = 5 ∨ x.kind = 6
  · rw [if_pos c4] at h4 h5
    simp only [Bool.and_eq_true, inn_iff, Bool.or_eq_true, decide_eq_true_eq] at h4
    have e1 := congrArg Deed.loss h5
    have e2 := congrArg (fun z : Deed => z.share.num) h5
    have e3 := congrArg (fun z : Deed => z.share.den) h5
    have e4 := congrArg Deed.to_ h5
    have e5 := congrArg Deed.pack h5
    have e6 := congrArg Deed.from_ h5
    simp only [zeroDeed] at e1 e2 e3 e4 e5 e6
    exact ⟨h1, h2, h3, by omega, by omega, by omega, by omega, by omega, by omega, by omega, by omega, by omega, h5'⟩
  rw [if_neg c4] at h4
  cases h4

theorem wordK_blank (k : Int) : ∀ c ∈ wordK k, c ≠ 32 := by
  unfold wordK
  repeat' split
  all_goals decide

theorem headN_bd {x : Deed} (h : formedD x = true) : ∀ n ∈ headN x, 0 ≤ n ∧ n < 1000000000000 := by
  obtain ⟨h1, h2, h3, _⟩ := formedD_all h
  unfold headN
  split <;> simp <;> omega
theorem tailN_bd {x : Deed} (h : formedD x = true) : ∀ n ∈ tailN x, 0 ≤ n ∧ n < 1000000000000 := by
  obtain ⟨h1, h2, h3, h4, h5, h6, h7, h8, h9, h10, _⟩ := formedD_all h
  unfold tailN
  repeat' split
  all_goals (simp; omega)

theorem wordsD_blank {x : Deed} (h : formedD x = true) : ∀ w ∈ wordsD x, ∀ c ∈ w, c ≠ 32 := by
  intro w hw
  unfold wordsD at hw
  rcases List.mem_append.1 hw with hw | hw
  · obtain ⟨n, hn, rfl⟩ := List.mem_map.1 hw
    exact nm_blank (headN_bd h n hn).1
  · rcases List.mem_cons.1 hw with rfl | hw
    · exact wordK_blank _
    · obtain ⟨n, hn, rfl⟩ := List.mem_map.1 hw
      exact nm_blank (tailN_bd h n hn).1

theorem wordsD_ne (x : Deed) : wordsD x ≠ [] := by unfold wordsD; simp

theorem cutD {x : Deed} (h : formedD x = true) : cutL (lineD x).data.toList = wordsD x := by
  have : (lineD x).data.toList = lineL (wordsD x) := by simp [lineD]
  rw [this, cutL_line _ (wordsD_ne x) (wordsD_blank h)]

theorem atoiV_nm {n : Int} (h : 0 ≤ n) (h1 : n < 1000000000000) : atoiV (nm n) = n := by
  unfold atoiV; rw [nm_atoi h h1]

theorem nm_voidD {n : Int} (h : 0 ≤ n) : nm n ≠ voidL := fun e => by
  have := nm_byte h 118 (by rw [e]; decide)
  revert this
  decide

theorem parseD_words {x : Deed} (h : formedD x = true) : parseD (wordsD x) = x := by
  obtain ⟨h1, h2, h3, h4, h5, h6, h7, h8, h9, h10, h11, h12, h13⟩ := formedD_all h
  obtain ⟨i, kn, ho, k, lo, pa, fr, t, ⟨sn, sd⟩, o⟩ := x
  simp only at h1 h2 h3 h4 h5 h6 h7 h8 h9 h10 h11 h12
  have hk : k = 1 ∨ k = 2 ∨ k = 3 ∨ k = 4 ∨ k = 5 ∨ k = 6 := by omega
  have V : ∀ {n : Int}, 0 ≤ n → n ≤ 1000000 → atoiV (nm n) = n := fun a b => atoiV_nm a (by omega)
  have hv := nm_voidD h3.1
  have v1 := V (n := i) (by omega) h1.2
  have v2 := V h2.1 h2.2
  have v3 := V h3.1 h3.2
  have v4 := V (n := lo) h4.1 (by omega)
  have v5 := V (n := pa) h5.1 (by omega)
  have v6 := V (n := fr) h6.1 (by omega)
  have v7 := V (n := t) h7.1 (by omega)
  have v8 := V h8.1 h8.2
  have v9 := V h9.1 h9.2
  have v10 := V h10.1 h10.2
  clear V h1 h2 h4 h5 h6 h7 h8 h9 h10 h
  unfold restD at h13
  rcases hk with rfl | rfl | rfl | rfl | rfl | rfl
  all_goals
    simp [zeroDeed] at h13
    simp [wordsD, headN, tailN, wordK, parseD, atD, numD, kindOf, paidL, soldL, leftL, claimL, withdrawL, voidL] at *
    try simp [*]
    try omega

theorem readD_spec (line : ByteArray) : ReadsD line (readD line).1 (readD line).2 := by
  unfold readD
  by_cases c : formedD (parseD (cutL line.data.toList)) = true ∧ lineD (parseD (cutL line.data.toList)) = line
  · rw [if_pos c]
    exact .inl ⟨rfl, c.1, c.2⟩
  · rw [if_neg c]
    refine .inr ⟨rfl, rfl, fun x hx e => c ?_⟩
    have : parseD (cutL line.data.toList) = x := by rw [← e, cutD hx, parseD_words hx]
    rw [this]
    exact ⟨hx, e⟩

theorem lineD_inj {x y : Deed} (hx : formedD x = true) (hy : formedD y = true) (h : lineD x = lineD y) : x = y := by
  rw [← parseD_words hx, ← parseD_words hy, ← cutD hx, ← cutD hy, h]

theorem readsD_unique {line : ByteArray} {y z : Deed} {e f : Int} (h : ReadsD line y e) (g : ReadsD line z f) : y = z ∧ e = f := by
  rcases h with ⟨rfl, h1, h2⟩ | ⟨rfl, rfl, h2⟩
  · rcases g with ⟨rfl, g1, g2⟩ | ⟨rfl, rfl, g2⟩
    · exact ⟨lineD_inj h1 g1 (h2.trans g2.symm), rfl⟩
    · exact absurd h2 (g2 y h1)
  · rcases g with ⟨rfl, g1, g2⟩ | ⟨rfl, rfl, g2⟩
    · exact absurd g2 (h2 z g1)
    · exact ⟨rfl, rfl⟩

end Lg

/-
  Walks: numbers joined with blanks (claim.joined); the words of a line (claim.words).
-/
namespace Go.Proofs.YtmeomhojbobpbaaGreatDoor
open Go.RowKit Lg Go.Sort Go.Shelf

set_option maxRecDepth 100000 in
set_option maxHeartbeats 3200000 in
theorem joinedD_any (a : Option Addr) (n cap : Nat) (xs : List Int) (w : World) (hV : Vs w) (hn : n ≤ 10) (hp : 0 < n) (hx : ∀ x ∈ xs, 0 ≤ x ∧ x < 1000000000000) (hL : Lst w 1 cI a n cap xs) :
    Calls Tryz.prog 80 #[.slice a n cap] w (Gives w (.string (ofL (lineL (xs.map nm))))) := by
  have hma : cap ≤ 9223372036854775807 := by have := hL.max; unfold maxLen at this; omega
  have hlea := hL.le
  have hlen := Lib.hid hL.len
  obtain ⟨i0, hi0, hz0, hz1, hz2⟩ := info_parts infoW
  go_enter Tryz.func80, Tryz.ntmps80
  go_wp2_with (fail)
  go_loopw [3, 8] (fun o i wr => ∃ k : Nat, k ≤ n ∧ i = .int .i64 k ∧ wr.ownsRow w.heap.size 9 1 o k (((xs.take k).map fun x => ofL (nm x)).flatMap cW) ∧ RowKit.Below w.heap.size w wr) (fun _ i _ => n - (intOf i).toNat)
  case atStart => exact ⟨0, Nat.zero_le _, rfl, ⟨by simp, .inl ⟨rfl, rfl⟩⟩, Below.refl _ _⟩
  case round =>
    obtain ⟨k, hk, rfl, hor, hB⟩ := hrel
    by_cases hlt : k < n
    · have hltz : (k : Int) < (n : Int) := by omega
      obtain ⟨x, hxk⟩ : ∃ x, xs[k]? = some x := ⟨xs[k]'(by rw [hlen.out]; exact hlt), by simp⟩
      obtain ⟨b1, o1, rfl, hb1, hr1⟩ := hL.at_ k x hxk
      have l1 := rangeAt_below hB hb1 hr1 0 _ rfl
      simp only [Nat.mul_one, Nat.add_zero] at l1
      have hx1 := hx x (List.mem_of_getElem? hxk)
      have hI := itoa_any (hV.below hB) x hx1.1 (by omega)
      have hsn : ((xs.take (k + 1)).map fun x => ofL (nm x)) = ((xs.take k).map fun x => ofL (nm x)) ++ [ofL (nm x)] := by
        obtain ⟨h1, h2⟩ := List.getElem?_eq_some_iff.1 hxk
        rw [List.take_succ_eq_append_getElem h1, h2, List.map_append]; rfl
      have Hsn := Lib.hid hsn
      have Hor := Lib.hid hor
      clear hx hx1 hr1 hxk hsn hor hV
      generalize ofL (nm x) = rx at *
      go_wp2_with (fail)
      refine hI.mono ?_
      clear hI
      rintro e w2 ⟨rfl, hB2⟩
      have hBb := hB.trans (hB2.mono hB.size)
      have hor2 := own_below Hor.out hB2
      have Hor2 := Lib.hid hor2
      clear hor2 Hor
      go_wp2_with (first
        | (at_builtin; refine wpList_append_list rfl _ _ _ rfl w.heap.size 9 i0 _ 1 16 Tryz.underlying100 hi0 hz0 hz1 hz2 rfl (by omega) _ _ _ rfl (Hor2.out.alloc _) cW (fun _ => rfl) cW_one _ 1 _ [rx] rfl (Lst.oneW (Blk.new _ _ _)) (by unfold maxLen; omega) (by omega) (by have := hBb.size; simp; omega) ?_; intro v2 w3 hown2 hgrow2; have hB3 := below_of_grown (hBb.alloc hBb.size _) (Nat.le_refl _) hgrow2 (own_ge' Hor2.out))
        | fail)
      go_roundw
      case rel =>
        refine ⟨k + 1, by omega, by go_num, ?_, hB3⟩
        rw [Hsn.out, List.flatMap_append]
        exact hown2
      case measure => simp [intOf]; omega
    · obtain rfl : k = n := by omega
      rw [List.take_of_length_le (by rw [hlen.out]; exact Nat.le_refl _)] at hor
      obtain ⟨ws, hws⟩ : ∃ ws, ws = xs.map fun x => ofL (nm x) := ⟨_, rfl⟩
      have hwl : ws.length = k := by rw [hws, List.length_map, hlen.out]
      rw [← hws] at hor
      obtain ⟨av, cv, rfl, _, hl⟩ := Lst.of_owns (k := 1) (enc := cW) (fun _ => rfl) (by omega) hor hwl
      obtain ⟨bk, off, rfl, hbk, hcl⟩ := hl.wordCells (by omega)
      have hdat : ws.map (·.data.toList) = xs.map nm := by
        rw [hws, List.map_map]
        exact List.map_congr_left fun x _ => by simp [ofL]
      have hj := Tryz.strings_Join bk off cv ws ⟨#[32]⟩ wr hcl hbk (by omega) (by rw [hwl]; exact hl.le) (by
        rw [hdat, show (⟨#[32]⟩ : ByteArray).data.toList = [32] from rfl, lineL_join]
        have := joinB_len xs hx
        rw [hlen.out] at this
        omega)
      rw [hdat, show (⟨#[32]⟩ : ByteArray).data.toList = [32] from rfl, lineL_join, hwl] at hj
      clear hor hl hcl hdat hws hwl hx hL hV
      go_wp2_with (fail)
      refine hj.mono ?_
      rintro e w4 ⟨rfl, hB4⟩
      go_wp2_with (fail)
      go_ret
      exact ⟨rfl, hB.trans (hB4.mono hB.size)⟩

end Go.Proofs.YtmeomhojbobpbaaGreatDoor

/-
  Deeds in memory; == at deeds; what is looked for in lists of them.
-/
namespace Go.Proofs.YtmeomhojbobpbaaGreatDoor
open Go.RowKit Lg

abbrev cD (x : Deed) : List Value := [.int .i64 x.id, .int .i64 x.known, .int .i64 x.hour, .int .u8 x.kind, .int .i64 x.loss, .int .i64 x.pack, .int .i64 x.from_, .int .i64 x.to_, .int .i64 x.share.num, .int .i64 x.share.den, .int .i64 x.of_]
abbrev aD (x : Deed) : Value := .agg #[.int .i64 x.id, .int .i64 x.known, .int .i64 x.hour, .int .u8 x.kind, .int .i64 x.loss, .int .i64 x.pack, .int .i64 x.from_, .int .i64 x.to_, .int .i64 x.share.num, .int .i64 x.share.den, .int .i64 x.of_]

theorem guardD : Tryz.prog.eqGuardType Tryz.prog.depth 36 = false := by kernel_rfl
theorem setAll_zeroD (z : Deed) : setAll #[.int .i64 0, .int .i64 0, .int .i64 0, .int .u8 0, .int .i64 0, .int .i64 0, .int .i64 0, .int .i64 0, .int .i64 0, .int .i64 0, .int .i64 0] 0 (cD z) = (cD z).toArray := by kernel_rfl

set_option maxHeartbeats 1600000 in
theorem eqD (x y : Deed) (w : World) : (binOp .eql 36 (aD x) (aD y)).run Tryz.prog w = .ok (.bool (decide (x = y))) w := by
  have u3 := Tryz.underlying3
  have a3 := Tryz.isAgg3
  have z3 := Tryz.sizeOf3
  have u9 := Tryz.underlying5
  have a9 := Tryz.isAgg5
  have z9 := Tryz.sizeOf5
  have u24 := Tryz.underlying25
  have a24 := Tryz.isAgg25
  have z24 := Tryz.sizeOf25
  have hS : Tryz.prog.underlying 36 = some (.struct (Tryz.prog.fieldsOf 36)) := by kernel_rfl
  have hp : Tryz.prog.stoodInHeld 36 = false := by kernel_rfl
  obtain ⟨a1, a2, a3, a4, a5, a6, a7, a8, ⟨a9, a10⟩, a11⟩ := x
  obtain ⟨b1, b2, b3, b4, b5, b6, b7, b8, ⟨b9, b10⟩, b11⟩ := y
  rw [run_eql_struct, show (10000 : Nat) = 9999 + 1 from rfl, run_equalIn_agg w 9999 36 _ _ hS hp]
  simp only [Program.fieldsOf, Tryz.underlying36]
  go_simp
  iterate 11 (split; rotate_left; · simp [*])
  simp [*]

set_option maxRecDepth 100000 in
set_option maxHeartbeats 400000 in
theorem indexD_any (p : Deed → Bool) (g : Nat) (lb : Array Value) (eg : ∀ args w, (callFunc g args).run Tryz.prog w = .ok (.enter g args) w) (a : Option Addr) (n cap : Nat) (xs : List Deed) (w : World) (hL : Lst w 11 cD a n cap xs)
    (hp : ∀ W x, Below w.heap.size w W → Calls Tryz.prog g (#[aD x] ++ lb) W (Gives W (.bool (p x)))) :
    Calls Tryz.prog 186 #[.slice a n cap, .func (.func g) #[] lb] w (Gives w (.int .i64 (idxP p xs))) := by
  have hm : cap ≤ 9223372036854775807 := by have := hL.max; unfold maxLen at this; omega
  have hle := hL.le
  have hlen := Lib.hid hL.len
  go_enter Tryz.func186, Tryz.ntmps186
  go_wp2
  go_loopw [8] (fun i wr => ∃ k : Nat, k ≤ n ∧ i = .int .i64 k ∧ Below w.heap.size w wr ∧ ∀ y ∈ xs.take k, p y = false) (fun i _ => n - (intOf i).toNat)
  case atStart => exact ⟨0, Nat.zero_le _, rfl, Below.refl _ _, by simp⟩
  case round =>
    obtain ⟨k, hk, rfl, hB, h0⟩ := hrel
    by_cases hlt : k < n
    · obtain ⟨x, hx⟩ : ∃ x, xs[k]? = some x := ⟨xs[k]'(by rw [hlen.out]; exact hlt), by simp⟩
      obtain ⟨b, off, rfl, hb, hr⟩ := hL.at_ k x hx
      have hr' := rangeAt_below hB hb hr
      have hX := Lib.hid hx; clear hx
      have H0 := Lib.hid h0; clear h0
      go_wp2_with (refine wpList_load_mid rfl 36 _ rfl b (off + k * 11) rfl (cD x) _ hr' Tryz.underlying36 rfl (by kernel_rfl) ?_)
      refine (hp wr x hB).mono ?_
      rintro e w2 ⟨rfl, hB2⟩
      have hB3 : Below w.heap.size w w2 := hB.trans (hB2.mono hB.size)
      cases hq : p x with
      | true =>
        have Hq := Lib.hid hq; clear hq
        go_wp2
        go_ret
        exact ⟨by rw [idxP_hit p xs k x hX.out H0.out Hq.out]; rfl, hB3⟩
      | false =>
        have Hq := Lib.hid hq; clear hq
        go_wp2
        go_roundw
        case rel =>
          refine ⟨k + 1, by omega, by go_num, hB3, fun y hy => ?_⟩
          have := List.getElem?_eq_some_iff.1 hX.out
          obtain ⟨h1, h2⟩ := this
          rw [List.take_succ_eq_append_getElem h1, h2] at hy
          rcases List.mem_append.1 hy with hy | hy
          · exact H0.out y hy
          · simp at hy; subst hy; exact Hq.out
        case measure => simp [intOf]; omega
    · obtain rfl : k = n := by omega
      have H0 := Lib.hid h0; clear h0
      go_wp2
      go_ret
      exact ⟨by rw [idxP_miss p xs (fun y hy => H0.out y (by rw [List.take_of_length_le (by rw [hlen.out]; exact Nat.le_refl _)]; exact hy))]; rfl, hB⟩
set_option maxHeartbeats 400000 in
theorem contD_any (p : Deed → Bool) (g : Nat) (lb : Array Value) (eg : ∀ args w, (callFunc g args).run Tryz.prog w = .ok (.enter g args) w) (a : Option Addr) (n cap : Nat) (xs : List Deed) (w : World) (hL : Lst w 11 cD a n cap xs)
    (hp : ∀ W x, Below w.heap.size w W → Calls Tryz.prog g (#[aD x] ++ lb) W (Gives W (.bool (p x)))) :
    Calls Tryz.prog 180 #[.slice a n cap, .func (.func g) #[] lb] w (Gives w (.bool (xs.any p))) := by
  have hc := indexD_any p g lb eg a n cap xs w hL hp
  rw [← idxP_any]
  clear hp hL
  generalize idxP p xs = r at *
  go_enter Tryz.func180, Tryz.ntmps180
  go_wp2_with (go_at_call 186; refine hc.mono ?_; rintro e w' ⟨rfl, hb'⟩)
  go_ret
  exact ⟨rfl, hb'⟩


theorem Blk.nw1 (W : World) (o : Obj) (t : TypeId) (cs : Array Value) : Blk ((W.alloc o).alloc (.cells cs t)) (W.heap.size + 1) cs t := by
  have := Blk.new (W.alloc o) t cs
  rwa [show (W.alloc o).heap.size = W.heap.size + 1 by simp] at this
theorem Blk.nw2 (W : World) (o p : Obj) (t : TypeId) (cs : Array Value) : Blk (((W.alloc o).alloc p).alloc (.cells cs t)) (W.heap.size + 1 + 1) cs t := by
  have := Blk.new ((W.alloc o).alloc p) t cs
  rwa [show ((W.alloc o).alloc p).heap.size = W.heap.size + 1 + 1 by simp] at this

end Go.Proofs.YtmeomhojbobpbaaGreatDoor

/-
  Walk: the words of the kinds (claim.words).
-/
namespace Go.Proofs.YtmeomhojbobpbaaGreatDoor
open Go.RowKit Lg Go.Sort Go.Shelf

/-- What claim.words hands back. -/
def wordsC : List Value := [.string ⟨#[]⟩, .string (ofL paidL), .string (ofL soldL), .string (ofL leftL), .string (ofL claimL), .string (ofL withdrawL), .string (ofL voidL)]

set_option maxRecDepth 100000 in
set_option maxHeartbeats 1600000 in
theorem wordsD_any (w : World) : Calls Tryz.prog 81 #[] w (Gives w (.agg wordsC.toArray)) := by
  go_enter Tryz.func81, Tryz.ntmps81
  go_wp2_with (fail)
  refine bodyPost_ret (results_cell_row rfl _ _ w.heap.size 94 _ _ _ rfl (Blk.new w _ _) Tryz.underlying94 rfl (by kernel_rfl)) rfl ⟨?_, (Below.refl _ w).alloc (Nat.le_refl _) _⟩
  kernel_rfl

end Go.Proofs.YtmeomhojbobpbaaGreatDoor

/-
  Walks: giving up (award.unless), a word's number (award.read$2).
-/
namespace Go.Proofs.YtmeomhojbobpbaaGreatDoor
open Go.RowKit Lg Go.Sort Go.Shelf

theorem atoi_ok {w : World} (s : ByteArray) (hs : s.size ≤ 1000) (v : Int) (h : Lib.atoiAll s.data.toList = .ok v) : Calls Tryz.prog 140 #[.string s] w (Gives w (.tuple #[.int .i64 v, .nilIface])) := by
  refine (Tryz.strconv_Atoi_ok s (by omega) v h w).mono ?_
  rintro e w' ⟨rfl, hw⟩
  refine ⟨rfl, ?_⟩
  rcases hw with rfl | ⟨t, rfl⟩
  · exact Below.refl _ _
  · exact below_bytes _ _ _

end Go.Proofs.YtmeomhojbobpbaaGreatDoor

/-
  Walks: what strconv.Atoi hands back, whatever it is handed (atoiV).
-/
namespace Go.Proofs.YtmeomhojbobpbaaGreatDoor
open Go.RowKit Lg Go.Sort Go.Shelf

theorem atoiV_any {w : World} (hV : Vs w) (s : ByteArray) (hs : s.size ≤ 1000) : Calls Tryz.prog 140 #[.string s] w fun e w' => ∃ er, e = .returned (.tuple #[.int .i64 (atoiV s.data.toList), er]) ∧ RowKit.Below w.heap.size w w' := by
  obtain ⟨e1, h1, h2⟩ := hV.syn
  obtain ⟨e2, h3, h4⟩ := hV.rng
  unfold atoiV
  cases hc : Lib.atoiAll s.data.toList
  · exact (atoi_ok s hs _ hc).mono fun e w' q => ⟨_, q.1, q.2⟩
  · refine (Any.strconv_Atoi_syntax Tryz.laysC172 s (by omega) hc e1 w h1 h2).mono ?_
    rintro e w' ⟨N, q1, _, _, q2⟩
    exact ⟨_, q1, q2⟩
  · refine (Any.strconv_Atoi_range Tryz.laysC172 s (by omega) hc e2 w h3 h4).mono ?_
    rintro e w' ⟨N, q1, _, _, q2⟩
    exact ⟨_, q1, q2⟩

end Go.Proofs.YtmeomhojbobpbaaGreatDoor

/-
  Walk: a line's number at an index (claim.parsed$1).
-/
namespace Go.Proofs.YtmeomhojbobpbaaGreatDoor
open Go.RowKit Lg Go.Sort Go.Shelf

set_option maxRecDepth 100000 in
set_option maxHeartbeats 1600000 in
theorem parsed1_any {w : World} (hV : Vs w) (Bw : Nat) (a : Option Addr) (n cap : Nat) (ws : List ByteArray) (k : Blk w Bw #[.slice a n cap] 100) (hL : Lst w 1 cW a n cap ws) (i : Nat) (_h1 : i ≤ 100) (hs : ∀ s ∈ ws, s.size ≤ 1000) :
    Calls Tryz.prog 139 #[.int .i64 i, .pointer (some ⟨Bw, 0, none⟩)] w (Gives w (.int .i64 (numD (ws.map fun s => s.data.toList) i))) := by
  have hm : cap ≤ 9223372036854775807 := by have := hL.max; unfold maxLen at this; omega
  have hle := hL.le
  have hlen := hL.len
  have c0 := k.cell
  unfold numD
  by_cases hi : n ≤ i
  · rw [show (ws.map fun s => s.data.toList)[i]? = none from List.getElem?_eq_none (by simp; omega)]
    have hz : (n : Int) ≤ (i : Int) := by omega
    clear hL hV hs hlen
    go_enter Tryz.func139, Tryz.ntmps139
    go_wp2_with (fail)
    go_ret
    exact ⟨rfl, Below.refl _ _⟩
  · have hz : ¬ (n : Int) ≤ (i : Int) := by omega
    have hlt : i < n := by omega
    have hltz : (i : Int) < (n : Int) := by omega
    obtain ⟨x, hx⟩ : ∃ x, ws[i]? = some x := ⟨ws[i]'(by omega), by simp⟩
    rw [show (ws.map fun s => s.data.toList)[i]? = some x.data.toList from by rw [List.getElem?_map, hx]; rfl]
    obtain ⟨b1, o1, rfl, hb1, hr1⟩ := hL.at_ i x hx
    have l1 := hr1 0 _ rfl
    simp only [Nat.mul_one, Nat.add_zero] at l1
    have hA := fun W (h : RowKit.Below w.heap.size w W) => atoiV_any (hV.below h) x (hs x (List.mem_of_getElem? hx))
    have hA0 := hA w (Below.refl _ _)
    dsimp only
    generalize atoiV x.data.toList = v at *
    clear hL hV hs hlen hA hx hr1
    go_enter Tryz.func139, Tryz.ntmps139
    go_wp2_with (fail)
    refine hA0.mono ?_
    clear hA0
    rintro e w2 ⟨er, rfl, hB⟩
    go_wp2_with (fail)
    go_ret
    exact ⟨rfl, hB⟩

end Go.Proofs.YtmeomhojbobpbaaGreatDoor

/-
  Walks: valid fractions; sums of two of them.
-/
namespace Go.Proofs.YtmeomhojbobpbaaGreatDoor
open Go.RowKit Lg Go.Sort Go.Shelf

set_option maxRecDepth 100000 in
set_option maxHeartbeats 800000 in
theorem valid1_any (f : Frac) (w : World) : Calls Tryz.prog 129 #[aF f] w (Gives w (.bool (!validF f))) := by
  have h1 := fun W => within5_any f.den 1 1000000 W
  have h2 := fun W => within5_any f.num (-1000000000000) 1000000000000 W
  have hv : validF f = (inn f.den 1 1000000 && inn f.num (-1000000000000) 1000000000000 && decide (Int.gcd f.num f.den = 1)) := rfl
  rw [hv]
  clear hv
  have hb : RowKit.Below w.heap.size w (w.alloc (.cells #[.int .i64 f.num, .int .i64 f.den] 25)) := (Below.refl _ w).alloc (Nat.le_refl _) _
  rcases Bool.eq_false_or_eq_true (inn f.den 1 1000000) with e1 | e1 <;> rw [e1] at h1 ⊢
  · rcases Bool.eq_false_or_eq_true (inn f.num (-1000000000000) 1000000000000) with e2 | e2 <;> rw [e2] at h2 ⊢
    · have b1 := (inn_iff _ _ _).1 e1
      have b2 := (inn_iff _ _ _).1 e2
      have hd := fun W => divisor_any f.num f.den W (by omega) (by omega)
      have E1 := Lib.hid e1
      have E2 := Lib.hid e2
      clear e1 e2 b1 b2
      by_cases hg : Int.gcd f.num f.den = 1
      · have hg' : ∀ W, Calls Tryz.prog 130 #[.int .i64 f.num, .int .i64 f.den] W fun e w' => e = .returned (.int .i64 1) ∧ Below W.heap.size W w' := fun W => by have := hd W; rw [hg] at this; exact this
        rw [decide_eq_true hg]
        clear hd hg
        go_enter Tryz.func129, Tryz.ntmps129
        go_wp2_with (fail)
        refine (h1 _).mono ?_
        rintro e w2 ⟨rfl, rfl⟩
        go_wp2_with (fail)
        refine (h2 _).mono ?_
        rintro e w2 ⟨rfl, rfl⟩
        go_wp2_with (fail)
        refine (hg' _).mono ?_
        rintro e w2 ⟨rfl, hB⟩
        go_wp2_with (fail)
        go_ret
        exact ⟨rfl, hb.trans (hB.mono hb.size)⟩
      · obtain ⟨g, hgg⟩ : ∃ g : Int, g = (Int.gcd f.num f.den : Int) := ⟨_, rfl⟩
        have hg1 : (g != 1) = true := by simp; omega
        rw [← hgg] at hd
        rw [decide_eq_false hg]
        clear hg hgg
        go_enter Tryz.func129, Tryz.ntmps129
        go_wp2_with (fail)
        refine (h1 _).mono ?_
        rintro e w2 ⟨rfl, rfl⟩
        go_wp2_with (fail)
        refine (h2 _).mono ?_
        rintro e w2 ⟨rfl, rfl⟩
        go_wp2_with (fail)
        refine (hd _).mono ?_
        rintro e w2 ⟨rfl, hB⟩
        go_wp2_with (fail)
        go_ret
        exact ⟨rfl, hb.trans (hB.mono hb.size)⟩
    · clear e1 e2
      go_enter Tryz.func129, Tryz.ntmps129
      go_wp2_with (fail)
      refine (h1 _).mono ?_
      rintro e w2 ⟨rfl, rfl⟩
      go_wp2_with (fail)
      refine (h2 _).mono ?_
      rintro e w2 ⟨rfl, rfl⟩
      go_wp2_with (fail)
      go_ret
      exact ⟨rfl, hb⟩
  · clear e1
    go_enter Tryz.func129, Tryz.ntmps129
    go_wp2_with (fail)
    refine (h1 _).mono ?_
    rintro e w2 ⟨rfl, rfl⟩
    go_wp2_with (fail)
    go_ret
    exact ⟨rfl, hb⟩

set_option maxRecDepth 100000 in
theorem valid_any (a : Option Addr) (n cap : Nat) (xs : List Frac) (w : World) (hL : Lst w 2 cF a n cap xs) :
    Calls Tryz.prog 66 #[.slice a n cap] w (Gives w (.bool (!xs.any fun f => !validF f))) := by
  have eg : ∀ args w, (callFunc 129 args).run Tryz.prog w = .ok (.enter 129 args) w := enters_of Tryz.func129 (by kernel_rfl) rfl
  have hc := contF_any (fun f => !validF f) 129 #[] eg a n cap xs w hL (fun W x _ => valid1_any x W)
  generalize (xs.any fun f => !validF f) = q at *
  go_enter Tryz.func66, Tryz.ntmps66
  go_wp2_with (go_at_call 128; refine hc.mono ?_; rintro e w3 ⟨rfl, hB⟩)
  go_ret
  exact ⟨rfl, hB⟩

set_option maxRecDepth 100000 in
set_option maxHeartbeats 800000 in
theorem plus_ok (a b : Frac) (w : World) (ha : frOk a) (hb : frOk b) (hok : normOk (a.num * b.den + b.num * a.den) (a.den * b.den) = true) :
    Calls Tryz.prog 69 #[aF a, aF b] w (Gives w (aF (normN (a.num * b.den + b.num * a.den) (a.den * b.den)))) := by
  obtain ⟨a1, a2, a3, a4⟩ := ha
  obtain ⟨b1, b2, b3, b4⟩ := hb
  obtain ⟨p1, p2⟩ := mul_bound a1 a2 b3 b4
  obtain ⟨q1, q2⟩ := mul_bound b1 b2 a3 a4
  have d1 : 1 ≤ a.den * b.den := by
    calc (1 : Int) ≤ 1 * b.den := by omega
      _ ≤ a.den * b.den := Int.mul_le_mul_of_nonneg_right a3 (by omega)
  have d2 : a.den * b.den ≤ 1000000000000 := by
    calc a.den * b.den ≤ 1000000 * b.den := Int.mul_le_mul_of_nonneg_right a4 (by omega)
      _ ≤ 1000000000000 := by omega
  have hn := fun W => norm_ok (a.num * b.den + b.num * a.den) (a.den * b.den) W (by omega) (by omega) (by omega) hok
  obtain ⟨r, hr⟩ : ∃ r, r = normN (a.num * b.den + b.num * a.den) (a.den * b.den) := ⟨_, rfl⟩
  rw [← hr] at hn ⊢
  clear hr hok
  go_enter Tryz.func69, Tryz.ntmps69
  go_wp2_with (fail)
  refine (hn _).mono ?_
  clear hn
  rintro e w2 ⟨rfl, hB⟩
  have k4 : Blk w2 (w.heap.size + 1 + 1) #[.int .i64 0, .int .i64 0] 83 := by
    have := Blk.new ((w.alloc (.cells #[.int .i64 a.num, .int .i64 a.den] 83)).alloc (.cells #[.int .i64 b.num, .int .i64 b.den] 83)) 83 #[.int .i64 0, .int .i64 0]
    have := this.below' hB
    simpa using this
  have hb0 : RowKit.Below w.heap.size w w2 := ((((Below.refl _ w).alloc (Nat.le_refl _) _).alloc (by simp) _).alloc (by simp; omega) _).trans (hB.mono (by simp; omega))
  have c4 := k4.cell
  have f4 := k4.frozen
  go_wp2_with (fail)
  refine bodyPost_ret (results_cell_row rfl _ _ (w.heap.size + 1 + 1) 83 _ _ _ rfl ((k4.setCell 0 _).setCell 1 _) Tryz.underlying83 rfl (by kernel_rfl)) rfl ⟨?_, (hb0.setCell (p := ⟨w.heap.size + 1 + 1, 0, none⟩) (by simp; omega) _).setCell (p := ⟨w.heap.size + 1 + 1, 1, none⟩) (by simp; omega) _⟩
  rfl

end Go.Proofs.YtmeomhojbobpbaaGreatDoor

/-
  Walk: the insertion sort of numbers of places, by whatever comparison.
-/
namespace Go.Proofs.YtmeomhojbobpbaaGreatDoor
open Go.RowKit Lg Go.Sort

/-- A row of numbers, each of them the number of a place of the row. -/
def PlsD (w : World) (B : Nat) (d : Array Nat) : Prop :=
  ∃ cs : Array Value, Blk w B cs 3 ∧ d.size ≤ cs.size ∧ ∀ k, k < d.size → d[k]! < d.size ∧ cs[k]? = some (.int .i64 (d[k]! : Nat))

theorem PlsD.lt {w : World} {B : Nat} {d : Array Nat} (h : PlsD w B d) : B < w.heap.size := by obtain ⟨cs, h, _⟩ := h; exact h.lt
theorem PlsD.below {w w' : World} {B : Nat} {d : Array Nat} (h : PlsD w B d) (hb : RowKit.Below w.heap.size w w') : PlsD w' B d := by
  obtain ⟨cs, h1, h2, h3⟩ := h
  exact ⟨cs, h1.below' hb, h2, h3⟩
theorem PlsD.drew {w : World} {B : Nat} {d : Array Nat} (h : PlsD w B d) : PlsD w.drew B d := h.below ((Below.refl _ w).drew)
theorem PlsD.get {w : World} {B : Nat} {d : Array Nat} (h : PlsD w B d) (k : Nat) (hk : k < d.size) : d[k]! < d.size ∧ w.cell? ⟨B, k, none⟩ = some (.int .i64 (d[k]! : Nat)) := by
  obtain ⟨cs, h1, h2, h3⟩ := h
  exact ⟨(h3 k hk).1, (h1.cell k).trans (h3 k hk).2⟩
theorem PlsD.frozen {w : World} {B : Nat} {d : Array Nat} (h : PlsD w B d) (k : Nat) : w.frozen? ⟨B, k, none⟩ = false := by
  obtain ⟨cs, h1, h2, h3⟩ := h
  exact h1.frozen k
theorem swp_get (d : Array Nat) (i j k : Nat) (_hi : i < d.size) (_hj : j < d.size) (hk : k < d.size) : (swp d i j)[k]! = if k = j then d[i]! else if k = i then d[j]! else d[k]! := by
  unfold swp
  have hs : k < ((d.setIfInBounds i d[j]!).setIfInBounds j d[i]!).size := by simpa using hk
  rw [getElem!_pos _ k hs, Array.getElem_setIfInBounds (by simpa using hk)]
  by_cases e : j = k
  · subst e; simp
  · rw [if_neg e, if_neg (fun e' => e e'.symm), Array.getElem_setIfInBounds]
    by_cases e2 : i = k
    · subst e2; simp
    · rw [if_neg e2, if_neg (fun e' => e2 e'.symm), getElem!_pos d k hk]
theorem swp_size (d : Array Nat) (i j : Nat) : (swp d i j).size = d.size := by simp [swp]
theorem PlsD.swap {w : World} {B : Nat} {d : Array Nat} (h : PlsD w B d) (i j : Nat) (hi : i < d.size) (hj : j < d.size) :
    PlsD ((w.setCell ⟨B, i, none⟩ (.int .i64 (d[j]! : Nat))).setCell ⟨B, j, none⟩ (.int .i64 (d[i]! : Nat))).drew B (swp d i j) := by
  obtain ⟨cs, h1, h2, h3⟩ := h
  refine ⟨_, ((h1.setCell i _).setCell j _).drew, by rw [swp_size]; simpa using h2, fun k hk => ?_⟩
  rw [swp_size] at hk ⊢
  rw [swp_get d i j k hi hj hk, Array.getElem?_setIfInBounds]
  by_cases e : j = k
  · subst e
    rw [if_pos rfl, if_pos rfl, if_pos (by simp; omega)]
    exact ⟨(h3 i hi).1, rfl⟩
  · rw [if_neg e, if_neg (fun e' => e e'.symm), Array.getElem?_setIfInBounds]
    by_cases e2 : i = k
    · subst e2
      rw [if_pos rfl, if_pos rfl, if_pos (by omega)]
      exact ⟨(h3 j hj).1, rfl⟩
    · rw [if_neg e2, if_neg (fun e' => e2 e'.symm)]
      exact h3 k hk

/-- A comparison of places, at every world that is as w below n0. -/
def CmpIs (g : Nat) (cb : Array Value) (n0 n : Nat) (cf : Nat → Nat → Int) (w : World) : Prop :=
  ∀ (i j : Nat), i < n → j < n → ∀ W, RowKit.Below n0 w W → Calls Tryz.prog g (#[.int .i64 i, .int .i64 j] ++ cb) W fun e w' => e = .returned (.int .i64 (cf i j)) ∧ RowKit.Below W.heap.size W w'

theorem insInner_step (lt : Nat → Nat → Bool) (a j : Nat) (d : Array Nat) (h : a < j + 1) (hl : lt d[j + 1]! d[j]! = true) : insInner lt a (j + 1) d = insInner lt a j (swp d (j + 1) j) := by
  rw [insInner, if_pos (by simp [hl]; omega)]
theorem insInner_end (lt : Nat → Nat → Bool) (a j : Nat) (d : Array Nat) (h : j + 1 ≤ a ∨ lt d[j + 1]! d[j]! = false) : insInner lt a (j + 1) d = d := by
  rw [insInner, if_neg]
  rcases h with h | h
  · simp; omega
  · simp [h]
theorem insInner_zero (lt : Nat → Nat → Bool) (a j : Nat) (d : Array Nat) (h : j ≤ a) : insInner lt a j d = d := by
  cases j with
  | zero => rfl
  | succ j => exact insInner_end lt a j d (Or.inl h)

set_option maxRecDepth 100000 in
set_option maxHeartbeats 3200000 in
theorem insertion_any (g : Nat) (cb : Array Value) (n0 B cap a b : Nat) (cf : Nat → Nat → Int) (d : Array Nat) (w0 w : World) (eg : ∀ args w, (callFunc g args).run Tryz.prog w = .ok (.enter g args) w) (hcmp : CmpIs g cb n0 d.size cf w0)
    (hP : PlsD w B d) (hB : RowKit.Below n0 w0 w) (hB0 : n0 ≤ B) (h0 : n0 ≤ w0.heap.size) (hab : a ≤ b) (hb : b ≤ d.size) (hn : d.size ≤ 1000000) :
    Calls Tryz.prog 198 #[.slice (some ⟨B, 0, none⟩) d.size cap, .int .i64 a, .int .i64 b, .func (.func g) #[] cb] w fun e w' => e = .returned (.tuple #[]) ∧ PlsD w' B (insertionSort (ltC cf) d a b) ∧ RowKit.Below n0 w0 w' := by
  have HC := Lib.hid hcmp
  clear hcmp
  obtain ⟨n, hnn⟩ : ∃ n, n = d.size := ⟨_, rfl⟩
  rw [← hnn] at hb hn ⊢
  have HN := Lib.hid hnn
  clear hnn
  have hwa : IntKind.i64.wrap ((a : Int) + 1) = (a : Int) + 1 := by rw [IntKind.wrap_i64]; omega
  go_enter Tryz.func198, Tryz.ntmps198
  go_wp2
  clear hwa
  go_loopw [8] (fun i wr => ∃ (k : Nat) (dk : Array Nat), k ≤ b + 1 ∧ a < k ∧ i = .int .i64 k ∧ Hid (dk.size = n) ∧ PlsD wr B dk ∧ RowKit.Below n0 w0 wr ∧ Hid (insOuter (ltC cf) a b k dk = insertionSort (ltC cf) d a b)) (fun i _ => b + 1 - (intOf i).toNat)
  case atStart => exact ⟨a + 1, d, by omega, by omega, by go_num, HN.out.symm, hP, hB, rfl⟩
  case round =>
    obtain ⟨i, di, hi1, hi2, rfl, hsi, hPi, hBi, HO⟩ := hrel
    by_cases hlt : i < b
    · have hltz : (i : Int) < (b : Int) := by omega
      have hwi : IntKind.i64.wrap ((i : Int) + 1) = (i : Int) + 1 := by rw [IntKind.wrap_i64]; omega
      go_wp2
      go_loopw [9] (fun j wr => ∃ (k : Nat) (dk : Array Nat), k ≤ i ∧ a ≤ k ∧ j = .int .i64 k ∧ Hid (dk.size = n) ∧ PlsD wr B dk ∧ RowKit.Below n0 w0 wr ∧ Hid (insInner (ltC cf) a k dk = insInner (ltC cf) a i di)) (fun j _ => (intOf j).toNat)
      case atStart => exact ⟨i, di, by omega, by omega, rfl, hsi, hPi, hBi, rfl⟩
      case round =>
        obtain ⟨j, dj, hj1, hj2, rfl, hsj, hPj, hBj, HI⟩ := hrel
        have hnext : insInner (ltC cf) a j dj = dj → insOuter (ltC cf) a b (i + 1) dj = insertionSort (ltC cf) d a b := fun h => by
          rw [← HO.out, insOuter.eq_def (ltC cf) a b i di, if_pos hlt, ← HI.out, h]
        have HX := Lib.hid hnext
        clear hnext
        by_cases hja : a < j
        · obtain ⟨jp, rfl⟩ : ∃ jp, j = jp + 1 := ⟨j - 1, by omega⟩
          have hwp : IntKind.i64.wrap (jp : Int) = (jp : Int) := by rw [IntKind.wrap_i64]; omega
          have jz : (jp : Int) + 1 < (n : Int) := by omega
          have jz1 : (jp : Int) < (n : Int) := by omega
          have hjaz' : (a : Int) < (jp : Int) + 1 := by omega
          have p0 : (0 : Int) ≤ (jp : Int) + 1 := by omega
          have e0 : ((jp : Int) + 1).toNat = jp + 1 := by omega
          have hg1 := hPj.get (jp + 1) (by rw [hsj.out]; omega)
          have hg2 := hPj.get jp (by rw [hsj.out]; omega)
          obtain ⟨x, hx⟩ : ∃ x, x = dj[jp + 1]! := ⟨_, rfl⟩
          obtain ⟨y, hy⟩ : ∃ y, y = dj[jp]! := ⟨_, rfl⟩
          rw [← hx] at hg1
          rw [← hy] at hg2
          obtain ⟨hxn, cj⟩ := hg1
          obtain ⟨hyn, cp⟩ := hg2
          rw [hsj.out, HN.out] at hxn hyn
          have Hx := Lib.hid hx; clear hx
          have Hy := Lib.hid hy; clear hy
          have hc := HC.out x y hxn hyn
          have Hxn := Lib.hid hxn; clear hxn
          have Hyn := Lib.hid hyn; clear hyn
          obtain ⟨v, hv⟩ : ∃ v, v = cf x y := ⟨_, rfl⟩
          rw [← hv] at hc
          have Hv := Lib.hid hv; clear hv
          have hB1 := hBj.drew
          have hPd := hPj.drew
          go_wp2_with (fail)
          go_still_tail 14, (by kernel_rfl)
          change wpList _ _ _ _ _ wr.drew
          clear cj cp
          generalize wr.drew = wd at *
          go_wp2_with (fail)
          refine (hc _ hB1).mono ?_
          clear hc
          rintro e w3 ⟨rfl, hB3⟩
          have hP3 := hPd.below hB3
          have hb3 : RowKit.Below n0 w0 w3 := hB1.trans (hB3.mono (by have := hB1.size; omega))
          clear hPd hPj hB1
          by_cases hv : v < 0
          · have hg1 := hP3.get (jp + 1) (by rw [hsj.out]; omega)
            have hg2 := hP3.get jp (by rw [hsj.out]; omega)
            rw [← Hx.out] at hg1
            rw [← Hy.out] at hg2
            have cj := hg1.2
            have cp := hg2.2
            clear hg1 hg2
            have fj := hP3.frozen (jp + 1)
            have fp := hP3.frozen jp
            obtain ⟨j1, hj1⟩ : ∃ j1, j1 = jp + 1 := ⟨_, rfl⟩
            rw [← hj1] at cj fj e0
            have J1 := Lib.hid hj1
            clear hj1
            go_wp2_with (fail)
            have HP3 := Lib.hid hP3
            clear hP3
            go_big_region
            all_goals go_wp2
            go_roundw
            case rel =>
              refine ⟨jp, swp dj (jp + 1) jp, by omega, by omega, by first | rfl | go_num, (by rw [swp_size]; exact hsj.out : Hid _), ?_, ?_, ?_⟩
              · have h := HP3.out.swap (jp + 1) jp (by rw [hsj.out]; omega) (by rw [hsj.out]; omega)
                rw [← Hx.out, ← Hy.out, ← J1.out] at h
                exact J1.out ▸ h
              · exact ((hb3.setCell (p := ⟨B, j1, none⟩) hB0 _).setCell (p := ⟨B, jp, none⟩) hB0 _).drew
              · show insInner (ltC cf) a jp (swp dj (jp + 1) jp) = _
                rw [← HI.out]
                refine (insInner_step (ltC cf) a jp dj (by omega) ?_).symm
                rw [← Hx.out, ← Hy.out]
                unfold ltC
                rw [← Hv.out]
                exact decide_eq_true hv
            case measure => simp [intOf]
          · go_wp2
            go_roundw
            case rel =>
              refine ⟨i + 1, dj, by omega, by omega, by go_num, hsj, hP3, hb3, HX.out (insInner_end (ltC cf) a jp dj (Or.inr ?_))⟩
              rw [← Hx.out, ← Hy.out]
              unfold ltC
              rw [← Hv.out]
              exact decide_eq_false (by omega)
            case measure => simp [intOf]; omega
        · have hjaz : ¬ ((a : Int) < (j : Int)) := by omega
          go_wp2_with (fail)
          go_big_region
          all_goals go_wp2
          go_roundw
          case rel => exact ⟨i + 1, dj, by omega, by omega, by go_num, hsj, hPj.drew, hBj.drew, HX.out (insInner_zero (ltC cf) a j dj (by omega))⟩
          case measure => simp [intOf]; omega
    · have hltz : ¬ ((i : Int) < (b : Int)) := by omega
      go_wp2
      go_end0
      have h := HO.out
      rw [insOuter.eq_def, if_neg hlt] at h
      rw [← h]
      exact ⟨rfl, hPi, hBi⟩

end Go.Proofs.YtmeomhojbobpbaaGreatDoor
