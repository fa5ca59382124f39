import Derived.Test.YtkeppoiomjhkpaaGreatDoorPart12
import Derived.Test.YtkeppoiomjhkpaaGreatDoorPart02
import Derived.Deep.Upon
import Derived.Lib.Strings
import Derived.Lib.IndexBytes
import Derived.Test.YtkeppoiomjhkpaaGreatDoorPart06
import Derived.Test.YtkeppoiomjhkpaaGreatDoorPart10
import Derived.Test.YtkeppoiomjhkpaaGreatDoorPart01
import Derived.Deep.Quiet
import Derived.OrdersIn
import Derived.RangeFuncCalls
/-
  Plain functions: the reference's sums of shares.
-/
namespace Lg
open Go

def keysR (f : Int → Int) : Nat → List Int
  | 0 => []
  | n + 1 => keysR f n ++ (if f n = 0 then [] else [(n : Int)])

def mergedR (f : Int → Int) : Nat → List Share
  | 0 => []
  | n + 1 => mergedR f n ++ (if f n = 0 then [] else [Share.mk n (f n)])

theorem mergedR_map (f : Int → Int) (n : Nat) : mergedR f n = (keysR f n).map fun p => Share.mk p (f p) := by
  induction n with
  | zero => rfl
  | succ n ih =>
    rw [mergedR, keysR, List.map_append, ih]
    by_cases h : f n = 0
    · rw [if_pos h, if_pos h]; rfl
    · rw [if_neg h, if_neg h]; rfl

theorem mem_keysR (f : Int → Int) (n : Nat) (p : Int) : p ∈ keysR f n ↔ f p ≠ 0 ∧ 0 ≤ p ∧ p < n := by
  induction n with
  | zero => simp [keysR]
  | succ n ih =>
    rw [keysR, List.mem_append, ih]
    by_cases h : f n = 0
    · rw [if_pos h]
      constructor
      · rintro (⟨a, b, c⟩ | a)
        · exact ⟨a, b, by omega⟩
        · cases a
      · rintro ⟨a, b, c⟩
        refine .inl ⟨a, b, ?_⟩
        have : p ≠ n := fun e => a (e ▸ h)
        omega
    · rw [if_neg h]
      constructor
      · rintro (⟨a, b, c⟩ | a)
        · exact ⟨a, b, by omega⟩
        · rw [List.mem_singleton] at a; subst a; exact ⟨h, by omega, by omega⟩
      · rintro ⟨a, b, c⟩
        by_cases e : p = n
        · right; rw [List.mem_singleton]; exact e
        · exact .inl ⟨a, b, by omega⟩

theorem keysR_sorted (f : Int → Int) (n : Nat) : (keysR f n).Pairwise (· < ·) := by
  induction n with
  | zero => exact List.Pairwise.nil
  | succ n ih =>
    rw [keysR, List.pairwise_append]
    refine ⟨ih, ?_, fun a ha b hb => ?_⟩
    · by_cases h : f n = 0
      · rw [if_pos h]; exact List.Pairwise.nil
      · rw [if_neg h]; exact List.pairwise_singleton _ _
    · have := (mem_keysR f n a).1 ha
      by_cases h : f n = 0
      · rw [if_pos h] at hb; cases hb
      · rw [if_neg h, List.mem_singleton] at hb; omega

theorem mergedR_list {f : Int → Int} {n : Nat} (h : ∀ p, f p ≠ 0 → 0 ≤ p ∧ p < n) : ListOf f (mergedR f n) := by
  rw [mergedR_map]
  exact listOf_keys (keysR_sorted f n) (fun p => by rw [mem_keysR]; exact ⟨fun a => a.1, fun a => ⟨a, h p a⟩⟩)

theorem mergedR_len (f : Int → Int) (n : Nat) : (mergedR f n).length ≤ n := by
  induction n with
  | zero => simp [mergedR]
  | succ n ih =>
    rw [mergedR, List.length_append]
    by_cases h : f n = 0
    · rw [if_pos h]; simp; omega
    · rw [if_neg h]; simp; omega

def negS (l : List Share) : List Share := l.map fun x => Share.mk x.party (-x.pence)

theorem sumP_neg (l : List Share) (p : Int) : sumP (negS l) p = - sumP l p := by
  induction l with
  | nil => rfl
  | cons x r ih =>
    have : sumP (negS (x :: r)) p = (if x.party = p then -x.pence else 0) + sumP (negS r) p := rfl
    rw [this, sumP, ih]
    by_cases h : x.party = p
    · rw [if_pos h, if_pos h]; omega
    · rw [if_neg h, if_neg h]; omega

theorem sumP_change (a b : List Share) (p : Int) : sumP (b ++ negS a) p = sumP b p - sumP a p := by
  rw [sumP_append, sumP_neg]; omega

/-- Sums of shares that can be merged are of the parties 0 to 40. -/
theorem sumP_in {l : List Share} (h : ∀ x ∈ l, 0 ≤ x.party ∧ x.party ≤ 40) (p : Int) (hp : sumP l p ≠ 0) : 0 ≤ p ∧ p < (41 : Nat) := by
  obtain ⟨x, hx, rfl⟩ := sumP_party hp
  have := h x hx
  omega

end Lg

/-
  Walks: the reference's sums of shares; Merge.
-/
namespace Go.Proofs.YtkeppoiomjhkpaaGreatDoor
open Go.RowKit Lg Go.Sort Go.Shelf Go.Maps

/-! ### A list behind a row of the call's own -/
theorem run_append_list {α : Type} (w : World) (t ty : TypeId) (base : Nat) (e : TypeId) (i : TypeInfo) (z : Value) (size bytes : Nat) (ht : Tryz.prog.underlying t = some (.slice e)) (hi : Tryz.prog.info? e = some i) (hz : i.zero = some z)
    (hsize : i.size = size) (hby : i.bytes = bytes) (hzs : z.cells.size = size) (hsz : 0 < size) (v : Value) (n : Nat) (xs : List Value) (hown : w.ownsRow base e size v n xs)
    (enc : α → List Value) (hen : ∀ x, (enc x).length = size) (hone : ∀ x, ∀ u ∈ enc x, u.oneCell' = true) (a : Option Addr) (m c : Nat) (zs : List α) (hM : Lst w size enc a m c zs)
    (h63 : n + m ≤ maxLen) (hbytes : (n + m) * bytes ≤ 140737488355328) (hbase : base ≤ w.heap.size) :
    ∃ v' w', (Builtin.append_ #[t, t] ty #[v, .slice a m c]).run Tryz.prog w = .ok v' w' ∧ w'.ownsRow base e size v' (n + m) (xs ++ zs.flatMap enc) ∧ w.grownBy w' v.ownBlock := by
  by_cases hm : m = 0
  · subst hm
    have hz0 : zs = [] := List.eq_nil_of_length_eq_zero hM.len
    subst hz0
    have hs : Src Tryz.prog i.size t (.slice a 0 c) 0 [] w := by
      cases a with
      | none => exact Src.ofNil w ht c
      | some ad => exact Src.ofSlice w ht ad 0 c [] (by simp) (fun j u h => by simp at h) (fun u h => by cases h)
    obtain ⟨sa, sn, sc, hv, hle⟩ : ∃ sa sn sc, v = .slice sa sn sc ∧ sn ≤ sc := by
      rcases hown.2 with ⟨hv, _⟩ | ⟨g, cap, cur, hv, _, _, h1, _⟩
      · exact ⟨none, 0, 0, hv, Nat.le_refl _⟩
      · exact ⟨_, n, cap, hv, h1⟩
    subst hv
    exact ⟨_, w, run_append_nothing w t t ty e i ht hi sa sn sc hle _ hs, by simpa using hown, World.grownBy.refl w _⟩
  · have hne : ∃ x, zs[0]? = some x := ⟨zs[0]'(by rw [hM.len]; omega), by simp⟩
    obtain ⟨x0, hx0⟩ := hne
    obtain ⟨b, off, rfl, _, _⟩ := hM.at_ 0 x0 hx0
    obtain ⟨g, cap, w', hr, h2, h3, _, _⟩ := run_append_lies (P := Tryz.prog) w t ty base e i z size bytes ht hi hz hsize hby hzs hsz v n xs hown ⟨b, off, none⟩ m c (zs.flatMap enc) (by rw [flat_len enc size hen, hM.len])
      (fun j u hj => by
        have := hM.cells hen j u hj
        rw [Addr.add_mid]; exact this)
      (flat_one enc hone zs) (by omega) h63 hbytes hbase _ rfl
    exact ⟨_, w', hr, h2, h3⟩

theorem wpList_append_list {α : Type} {ops : Array Oper} {rest : List Oper} {o : Oper} {a : Act} {w : World} {Q : Exit → Act → World → Prop} (hgd : o.guard = none) (s x : Operand) (t : TypeId)
    (ho : o.op = .call { callee := .builtin .append, args := #[s, x], argTypes := #[t, t] })
    (base : Nat) (e : TypeId) (i : TypeInfo) (z : Value) (size bytes : Nat) (ht : Tryz.prog.underlying t = some (.slice e)) (hi : Tryz.prog.info? e = some i) (hz : i.zero = some z)
    (hsize : i.size = size) (hby : i.bytes = bytes) (hzs : z.cells.size = size) (hsz : 0 < size) (v : Value) (n : Nat) (xs : List Value) (hs : a.eval s = v) (hown : w.ownsRow base e size v n xs)
    (enc : α → List Value) (hen : ∀ x, (enc x).length = size) (hone : ∀ x, ∀ u ∈ enc x, u.oneCell' = true) (b : Option Addr) (m c : Nat) (zs : List α) (hx : a.eval x = .slice b m c) (hM : Lst w size enc b m c zs)
    (h63 : n + m ≤ maxLen) (hbytes : (n + m) * bytes ≤ 140737488355328) (hbase : base ≤ w.heap.size)
    (h : ∀ v' w', w'.ownsRow base e size v' (n + m) (xs ++ zs.flatMap enc) → w.grownBy w' v.ownBlock → wpList Tryz.prog ops Q rest (a.put o.dst v') w') : wpList Tryz.prog ops Q (o :: rest) a w :=
  wpList_plain hgd fun _ hK => by
    obtain ⟨v', w', hr, h2, h3⟩ := run_append_list w t o.type base e i z size bytes ht hi hz hsize hby hzs hsz v n xs hown enc hen hone b m c zs hM h63 hbytes hbase
    unfold Oper.wp execOp
    simp only [ho, resolve, invoke, builtin, Sem.run_bind, Sem.run_pure, Result.andThen_ok, List.map_toArray, List.map_cons, List.map_nil, hs, hx, hr]
    exact hK _ _ (h v' w' h2 h3)

/-! ### Sums -/
end Go.Proofs.YtkeppoiomjhkpaaGreatDoor

/-
  Walks: the reference's cutting of a line.
-/
namespace Go.Proofs.YtkeppoiomjhkpaaGreatDoor
open Go.RowKit Lg Go.Sort Go.Shelf

abbrev cW (x : ByteArray) : List Value := [.string x]

theorem infoW : (Tryz.prog.info? 9).map (fun i => (i.zero, i.size, i.bytes)) = some (some (.string ⟨#[]⟩), 1, 16) := by kernel_rfl

theorem cW_one (x : ByteArray) : ∀ u ∈ cW x, u.oneCell' = true := by
  intro u hu
  simp only [cW, List.mem_singleton] at hu
  subst hu
  rfl

theorem Lst.oneW {W : World} {B : Nat} {x : ByteArray} {t : TypeId} (k : Blk W B #[.string x] t) : Lst W 1 cW (some ⟨B, 0, none⟩) 1 1 [x] :=
  ⟨rfl, Nat.le_refl _, by unfold maxLen; omega, fun i y hx => by
    have hi : i = 0 := by have := (List.getElem?_eq_some_iff.1 hx).1; simp at this; exact this
    subst hi
    obtain rfl : x = y := by simpa using hx
    refine ⟨B, 0, rfl, k.lt, fun j u hu => ?_⟩
    rw [show 0 + 0 * 1 + j = j by omega, k.cell j]
    simpa using hu⟩

/-- What cut hands back: the words, then empty ones. -/
def CutRes (s : ByteArray) (w : World) (e : Ending) (w' : World) : Prop :=
  ∃ a c ws q, e = .returned (.slice a ws.length c) ∧ Lst w' 1 cW a ws.length c ws ∧ 10 ≤ ws.length ∧ ws.map (·.data.toList) = cutL s.data.toList ++ List.replicate q [] ∧ RowKit.Below w.heap.size w w'

theorem cut_hit {l : Bs} {f k : Nat} {ds : List Bs} (h : cutL l = ds ++ cutL (l.drop f)) (hn : ∀ c ∈ (l.drop f).take (k - f), c ≠ 32) (hf : f ≤ k) (hk : l[k]? = some 32) :
    cutL l = ds ++ [(l.drop f).take (k - f)] ++ cutL (l.drop (k + 1)) := by
  have e : l.drop f = (l.drop f).take (k - f) ++ 32 :: l.drop (k + 1) := by
    obtain ⟨h1, h2⟩ := List.getElem?_eq_some_iff.1 hk
    have e1 := (List.take_append_drop (k - f) (l.drop f)).symm
    rw [List.drop_drop, show f + (k - f) = k by omega, List.drop_eq_getElem_cons h1, h2] at e1
    exact e1
  have hc := cutL_step hn (l.drop (k + 1))
  rw [← e] at hc
  rw [h, hc]
  simp

theorem cut_miss {l : Bs} {f k : Nat} {c : UInt8} (hn : ∀ c ∈ (l.drop f).take (k - f), c ≠ 32) (hf : f ≤ k) (hk : l[k]? = some c) (hc : c ≠ 32) : ∀ c ∈ (l.drop f).take (k + 1 - f), c ≠ 32 := by
  have hd : (l.drop f)[k - f]? = some c := by rw [List.getElem?_drop, show f + (k - f) = k by omega]; exact hk
  obtain ⟨h1, h2⟩ := List.getElem?_eq_some_iff.1 hd
  rw [show k + 1 - f = (k - f) + 1 by omega, List.take_succ_eq_append_getElem h1, h2]
  intro d hd
  simp only [List.mem_append, List.mem_singleton] at hd
  rcases hd with hd | rfl
  · exact hn d hd
  · exact hc

theorem ext_data (s : ByteArray) (f k : Nat) (_hf : f ≤ k) (_hk : k ≤ s.size) : (s.extract f k).data.toList = (s.data.toList.drop f).take (k - f) := by
  rw [Go.Lib.extract_data]

def lenOf : Value → Nat
  | .slice _ n _ => n
  | _ => 0

theorem blank_data : (⟨#[]⟩ : ByteArray).data.toList = [] := rfl

set_option maxRecDepth 100000 in
set_option maxHeartbeats 1600000 in
theorem cutR_any (s : ByteArray) (w : World) (hs : s.size ≤ 400) : Calls Tryz.prog 53 #[.string s] w (CutRes s w) := by
  have hls : s.data.toList.length = s.size := by rw [Array.length_toList]; rfl
  obtain ⟨L, hL⟩ : ∃ L, L = s.data.toList := ⟨_, rfl⟩
  obtain ⟨i0, hi0, hz0, hz1, hz2⟩ := info_parts infoW
  have HL := Lib.hid hL
  have Hls := Lib.hid hls
  clear hL hls
  go_enter Tryz.func53, Tryz.ntmps53
  go_wp2_with (fail)
  go_loopw [3, 4, 5] (fun o fr i wr => ∃ (k f : Nat) (ds : List ByteArray), k ≤ s.size ∧ f ≤ k ∧ ds.length ≤ k ∧ i = .int .i64 k ∧ fr = .int .i64 f ∧ wr.ownsRow w.heap.size 9 1 o ds.length (ds.flatMap cW) ∧ RowKit.Below w.heap.size w wr ∧ Hid (cutL L = ds.map (·.data.toList) ++ cutL (L.drop f)) ∧ Hid (∀ c ∈ (L.drop f).take (k - f), c ≠ 32)) (fun _ _ i _ => s.size - (intOf i).toNat)
  case atStart => exact ⟨0, 0, [], Nat.zero_le _, Nat.le_refl _, Nat.le_refl _, rfl, rfl, ⟨by simp, .inl ⟨rfl, rfl⟩⟩, Below.refl _ _, Lib.hid (by simp), Lib.hid (by simp)⟩
  case round =>
    obtain ⟨k, f, ds, hk, hf, hdl, rfl, rfl, hor, hB, Hc, Hn⟩ := hrel
    by_cases hlt : k < s.size
    · have hltz : (k : Int) < (s.size : Int) := by omega
      have hk256 : (s[k]'hlt).toNat < 256 := UInt8.toNat_lt _
      have hget : L[k]? = some (s[k]'hlt) := by rw [HL.out, List.getElem?_eq_getElem (by rw [Array.length_toList]; exact hlt)]; rfl
      have Hget := Lib.hid hget
      clear hget
      by_cases hc : s[k]'hlt = 32
      · have hcz : (((s[k]'hlt).toNat : Int) == 32) = true := by rw [hc]; rfl
        have hg2 : L[k]? = some 32 := by rw [← hc]; exact Hget.out
        have hnew := cut_hit Hc.out Hn.out hf hg2
        have hex := ext_data s f k hf hk
        rw [← HL.out] at hex
        rw [← hex] at hnew
        have Hnew := Lib.hid hnew
        clear hc hg2 hnew hex
        have Hor := Lib.hid hor
        clear hor
        go_wp2_with (first
          | (at_builtin; refine wpList_append_list rfl _ _ _ rfl w.heap.size 9 i0 _ 1 16 Tryz.underlying91 hi0 hz0 hz1 hz2 rfl (by omega) _ _ _ rfl (Hor.out.alloc _) cW (fun _ => rfl) cW_one _ 1 _ [s.extract f k] rfl (Lst.oneW (Blk.new _ _ _)) (by unfold maxLen; omega) (by omega) (by have := hB.size; simp; omega) ?_; intro v2 w2 hown2 hgrow2; have hB2 := below_of_grown (hB.alloc hB.size _) (Nat.le_refl _) hgrow2 (own_ge' Hor.out))
          | fail)
        go_roundw
        case rel =>
          refine ⟨k + 1, k + 1, ds ++ [s.extract f k], by omega, Nat.le_refl _, by simp; omega, by go_num, by go_num, ?_, hB2, Lib.hid ?_, Lib.hid (by simp)⟩
          · rw [List.length_append, List.flatMap_append]
            exact hown2
          · rw [List.map_append]; exact Hnew.out
        case measure => simp [intOf]; omega
      · have hcz : (((s[k]'hlt).toNat : Int) == 32) = false := by
          simp only [beq_eq_false_iff_ne]
          intro e
          apply hc
          apply UInt8.toNat_inj.1
          have : (32 : UInt8).toNat = 32 := rfl
          omega
        have hnn := cut_miss Hn.out hf Hget.out hc
        have Hnn := Lib.hid hnn
        clear hc hnn
        go_wp2_with (fail)
        go_roundw
        case rel => exact ⟨k + 1, f, ds, by omega, by omega, by omega, by go_num, rfl, hor, hB, Hc, Hnn⟩
        case measure => simp [intOf]; omega
    · obtain rfl : k = s.size := by omega
      have hnew : cutL L = (ds ++ [s.extract f s.size]).map (·.data.toList) := by
        have h1 := Hn.out
        have h2 := Hc.out
        have hex := ext_data s f s.size hf hk
        rw [← HL.out] at hex
        rw [List.take_of_length_le (by rw [List.length_drop, HL.out, Hls.out]; exact Nat.le_refl _)] at h1 hex
        rw [h2, List.map_append, cutL_word h1, ← hex]; rfl
      have Hnew := Lib.hid hnew
      clear hnew Hc Hn
      have Hor := Lib.hid hor
      clear hor
      go_wp2_with (first
        | (at_builtin; refine wpList_append_list rfl _ _ _ rfl w.heap.size 9 i0 _ 1 16 Tryz.underlying91 hi0 hz0 hz1 hz2 rfl (by omega) _ _ _ rfl (Hor.out.alloc _) cW (fun _ => rfl) cW_one _ 1 _ [s.extract f s.size] rfl (Lst.oneW (Blk.new _ _ _)) (by unfold maxLen; omega) (by omega) (by have := hB.size; simp; omega) ?_; intro v2 w2 hown2 hgrow2; have hB2 := below_of_grown (hB.alloc hB.size _) (Nat.le_refl _) hgrow2 (own_ge' Hor.out))
        | fail)
      clear Hor hB hgrow2
      obtain ⟨D, hD⟩ : ∃ D, D = ds ++ [s.extract f s.size] := ⟨_, rfl⟩
      have hDl : D.length = ds.length + 1 := by rw [hD, List.length_append]; rfl
      have hown : w2.ownsRow w.heap.size 9 1 v2 D.length (D.flatMap cW) := by rw [hDl, hD, List.flatMap_append]; exact hown2
      have hcD : cutL L = D.map (·.data.toList) := by rw [hD]; exact Hnew.out
      have HcD := Lib.hid hcD
      have hDb : D.length ≤ 401 := by omega
      clear hown2 Hnew hD hDl hcD
      go_loopw [3] (fun o wr => ∃ (q : Nat) (ws : List ByteArray), ws.length ≤ 411 ∧ wr.ownsRow w.heap.size 9 1 o ws.length (ws.flatMap cW) ∧ RowKit.Below w.heap.size w wr ∧ Hid (ws.map (·.data.toList) = cutL L ++ List.replicate q []) ∧ Hid (ws.length = D.length + q)) (fun o _ => 10 - lenOf o)
      case atStart => exact ⟨0, D, by omega, hown, hB2, Lib.hid (by rw [HcD.out]; simp), Lib.hid (by omega)⟩
      case round =>
        obtain ⟨q, ws, hw, hor, hBr, Hw, Hq⟩ := hrel
        obtain ⟨av, cv, rfl, _, hl⟩ := Lst.of_owns (k := 1) (enc := cW) (fun _ => rfl) (by omega) hor rfl
        by_cases hlt : ws.length < 10
        · have hltz : (ws.length : Int) < 10 := by omega
          have Hor := Lib.hid hor
          clear hor hl
          obtain ⟨m, hm⟩ : ∃ m, m = ws.length := ⟨_, rfl⟩
          rw [← hm] at hlt hltz hw Hor ⊢
          have Hm := Lib.hid hm
          clear hm
          go_wp2_with (first
            | (at_builtin; refine wpList_append_list rfl _ _ _ rfl w.heap.size 9 i0 _ 1 16 Tryz.underlying91 hi0 hz0 hz1 hz2 rfl (by omega) _ _ _ rfl (Hor.out.alloc _) cW (fun _ => rfl) cW_one _ 1 _ [⟨#[]⟩] rfl (Lst.oneW (Blk.new _ _ _)) (by unfold maxLen; omega) (by omega) (by have := hBr.size; simp; omega) ?_; intro v3 w3 hown3 hgrow3; have hB3 := below_of_grown (hBr.alloc hBr.size _) (Nat.le_refl _) hgrow3 (own_ge' Hor.out))
            | fail)
          have hown4 : w3.ownsRow w.heap.size 9 1 v3 (ws ++ [(⟨#[]⟩ : ByteArray)]).length ((ws ++ [(⟨#[]⟩ : ByteArray)]).flatMap cW) := by
            rw [List.length_append, List.flatMap_append, ← Hm.out]
            exact hown3
          obtain ⟨av3, cv3, rfl, _, _⟩ := Lst.of_owns (k := 1) (enc := cW) (fun _ => rfl) (by omega) hown4 rfl
          go_roundw
          case rel =>
            refine ⟨q + 1, ws ++ [(⟨#[]⟩ : ByteArray)], by rw [List.length_append, ← Hm.out]; simp; omega, hown4, hB3, Lib.hid ?_, Lib.hid ?_⟩
            · rw [List.map_append, Hw.out, List.replicate_succ', List.append_assoc]; rfl
            · rw [List.length_append, Hq.out]; simp; omega
          case measure => simp only [lenOf, List.length_append, List.length_singleton]; have := Hm.out; omega
        · have hltz : ¬ (ws.length : Int) < 10 := by omega
          clear hor
          obtain ⟨m, hm⟩ : ∃ m, m = ws.length := ⟨_, rfl⟩
          have hlm := hl
          rw [← hm] at hlt hltz hw hlm ⊢
          have Hm := Lib.hid hm
          have Hl := Lib.hid hlm
          clear hm hl hlm
          go_wp2_with (fail)
          go_ret
          exact ⟨av, cv, ws, q, by rw [← Hm.out]; rfl, by rw [← Hm.out]; exact Hl.out, by rw [← Hm.out]; omega, by rw [← HL.out]; exact Hw.out, hBr⟩

end Go.Proofs.YtkeppoiomjhkpaaGreatDoor

/-
  The cells of a list of words.
-/
namespace Go.Proofs.YtkeppoiomjhkpaaGreatDoor
open Go.RowKit Lg Go.Sort Go.Shelf

theorem Lst.wordCells {w : World} {a : Option Addr} {n c : Nat} {ws : List ByteArray} (h : Lst w 1 cW a n c ws) (hn : 0 < n) : ∃ b off, a = some ⟨b, off, none⟩ ∧ b < w.heap.size ∧ ∀ i s, ws[i]? = some s → w.cell? ⟨b, off + i, none⟩ = some (.string s) := by
  obtain ⟨s0, h0⟩ : ∃ s, ws[0]? = some s := ⟨ws[0]'(by rw [h.len]; exact hn), by simp⟩
  obtain ⟨b, off, ha, hb, _⟩ := h.at_ 0 s0 h0
  refine ⟨b, off, ha, hb, fun i s hi => ?_⟩
  obtain ⟨b2, o2, ha2, _, hr⟩ := h.at_ i s hi
  rw [ha] at ha2
  obtain ⟨rfl, rfl⟩ : b = b2 ∧ off = o2 := by injection ha2 with e; injection e with e1 e2; exact ⟨e1, e2⟩
  have := hr 0 _ rfl
  simpa using this

end Go.Proofs.YtkeppoiomjhkpaaGreatDoor

/-
  Walks: the predicate inside counting, at sales.
-/
namespace Go.Proofs.YtkeppoiomjhkpaaGreatDoor
open Go.RowKit Lg Go.Sort

set_option maxRecDepth 100000 in
set_option maxHeartbeats 400000 in
theorem voidS_any (x : Sale) (h : Head) (known : Int) (B1 B2 : Nat) (w : World) (c1 : w.cell? ⟨B1, 0, none⟩ = some (.int .i64 h.id)) (c2 : w.cell? ⟨B2, 0, none⟩ = some (.int .i64 known)) :
    Calls Tryz.prog 150 #[aS x, .pointer (some ⟨B1, 0, none⟩), .pointer (some ⟨B2, 0, none⟩)] w (Gives w (.bool (voids h x.head known))) := by
  obtain ⟨W, hW⟩ : ∃ W, W = w.alloc (.cells #[.int .i64 x.id, .int .i64 x.known, .int .i64 x.hour, .int .i64 x.parcel, .int .i64 x.price, .int .i64 x.carter, .int .i64 x.keeper, .int .i64 x.since, .int .i64 x.of_] 24) := ⟨_, rfl⟩
  have b1 : _ < _ := block_lt_of_cell c1
  have b2 : _ < _ := block_lt_of_cell c2
  have hB : Below w.heap.size w W := hW ▸ (Below.refl _ w).alloc (Nat.le_refl _) _
  have k1 := cell_regrown ((hB.cell (p := ⟨B1, 0, none⟩) b1).trans c1)
  have k2 := cell_regrown ((hB.cell (p := ⟨B2, 0, none⟩) b2).trans c2)
  have k3 := box_regrown hW
  have fh := fieldH
  have cH := regrown_call (w := W) (v := .agg #[.int .i64 x.id, .int .i64 x.known, .int .i64 x.of_]) (fun W' _ => headS_any x W')
  go_enter Tryz.func150, Tryz.ntmps150
  go_wp2
  rw [← hW]; clear hW
  by_cases hid : x.of_ = h.id
  · have g1 : (x.of_ == h.id) = true := by simp [hid]
    have H := Lib.hid hid; clear hid
    refine wp_region_quiet_below (by kernel_rfl) (by kernel_rfl) ?_
    repeat (quiet_step (first | exact cH _ _))
    refine wpQuiet_nil ?_
    intro _ hw'
    obtain ⟨⟨dq, osq⟩, hw''⟩ := hw'
    subst hw''
    go_wp2
    go_ret
    exact ⟨by simp [voids, Sale.head, H.out], hB.trans ((below_regrown W dq osq).mono hB.size)⟩
  · have g1 : (x.of_ == h.id) = false := by simp [hid]
    have H := Lib.hid hid; clear hid
    refine wp_region_quiet_below (by kernel_rfl) (by kernel_rfl) ?_
    repeat (quiet_step (first | exact cH _ _))
    refine wpQuiet_nil ?_
    intro _ hw'
    obtain ⟨⟨dq, osq⟩, hw''⟩ := hw'
    subst hw''
    go_wp2
    go_ret
    exact ⟨by simp [voids, Sale.head, H.out], hB.trans ((below_regrown W dq osq).mono hB.size)⟩

end Go.Proofs.YtkeppoiomjhkpaaGreatDoor

/-
  The iterator over what counts, at sales.
-/
namespace Go.Proofs.YtkeppoiomjhkpaaGreatDoor
open Go.RowKit Lg Go.Sort Go.Shelf

attribute [local go_sem] Oper.semAt_some

theorem any_headS (l : List Sale) (h : Head) (known : Int) : l.any (fun v => voids h v.head known) = (l.map Sale.head).any (fun v => voids h v known) := by
  rw [List.any_map]; rfl

set_option maxRecDepth 100000 in
set_option maxHeartbeats 1000000 in
theorem countingS1 (n : Nat) (hn : 1 ≤ n) (l Bl Bk : Nat) (S : Nat → Prop) (a : Option Addr) (m cap : Nat) (xs : List Sale) (known : Int) (J Jx : List Sale → World → Prop)
    (W : World) (hJ : AbidesFrom W.heap.size J) (hBl : W.cell? ⟨Bl, 0, none⟩ = some (.slice a m cap)) (hBk : W.cell? ⟨Bk, 0, none⟩ = some (.int .i64 known)) (hS1 : S Bl) (hS2 : S Bk) (hSlt : ∀ k, S k → k < W.heap.size)
    (hL : Lst W 9 cS a m cap xs) (hLb : ∀ b off, xs ≠ [] → a = some ⟨b, off, none⟩ → S b)
    (hY : ∀ pre x W1, J pre W1 → pre.length < xs.length → YieldAt Fence.wide (n - 1) Tryz.prog l #[aS x] W1 fun e W' =>
      (e = .returned (.bool true) ∧ J (pre ++ [x]) W' ∧ KpOn S W1 W') ∨ (e = .returned (.bool false) ∧ Jx (pre ++ [x]) W'))
    (h0 : J [] W) :
    CallsIn Fence.wide n Tryz.prog 149 #[.func (.yield l) #[] #[], .pointer (some ⟨Bl, 0, none⟩), .pointer (some ⟨Bk, 0, none⟩)] W fun e W' => (∃ v, e = .returned v) ∧
      ((∃ ys, ys = cntS xs known ∧ J ys W') ∨ (∃ pre, pre <+: cntS xs known ∧ Jx pre W')) := by
  have hm : cap ≤ 9223372036854775807 := by have := hL.max; unfold maxLen at this; omega
  have hle := hL.le
  have hlen := Lib.hid hL.len
  have hw115 : Fence.wide.fn 114 := trivial
  have hw116 : Fence.wide.fn 115 := trivial
  refine callsIn_of_wp Tryz.func149 rfl trivial ?_ rfl
  simp only [Tryz.ntmps149, List.size_toArray, List.length_cons, List.length_nil, Nat.reduceAdd, Nat.reduceSub, Array.replicate_succ, Array.replicate_zero, List.push_toArray, List.append_toArray, List.nil_append, List.cons_append]
  gi_wp2
  gi_loopw [10] (fun i wr => ∃ k : Nat, k ≤ m ∧ i = .int .i64 k ∧ KpOn S W wr ∧ J ((xs.take k).filter fun x => counts (xs.map Sale.head) known x.head) wr) (fun i _ => m - (intOf i).toNat)
  case atStart => exact ⟨0, Nat.zero_le _, rfl, KpOn.refl _ _, h0⟩
  case round =>
    obtain ⟨k, hk, rfl, hB, hJk⟩ := hrel
    have hsz := hB.1
    have hlt1 := hSlt _ hS1
    have hlt2 := hSlt _ hS2
    by_cases hlt : k < m
    · obtain ⟨x, hx⟩ : ∃ x, xs[k]? = some x := ⟨xs[k]'(by rw [hlen.out]; exact hlt), by simp⟩
      obtain ⟨b, off, rfl, hb, hr⟩ := hL.at_ k x hx
      have hne : xs ≠ [] := fun h => by rw [h] at hx; simp at hx
      have hr' := rangeAt_kp hB (hLb b off hne rfl) hr
      have hX := Lib.hid hx; clear hx
      have HJ := Lib.hid hJk; clear hJk
      gi_wp2_with (refine wpListIn_load_mid rfl 24 _ rfl b (off + k * 9) rfl (cS x) _ hr' Tryz.underlying24 rfl (by kernel_rfl) ?_)
      refine (callsIn_wide.2 (headS_any x _)).mono ?_
      rintro e w2 ⟨rfl, hB2⟩
      obtain ⟨A1, hA1⟩ : ∃ A1, A1 = wr.alloc (.cells #[.int .i64 x.id, .int .i64 x.known, .int .i64 x.hour, .int .i64 x.parcel, .int .i64 x.price, .int .i64 x.carter, .int .i64 x.keeper, .int .i64 x.since, .int .i64 x.of_] 24) := ⟨_, rfl⟩
      rw [← hA1] at hB2
      have hBA : Below wr.heap.size wr A1 := hA1 ▸ (Below.refl _ wr).alloc (Nat.le_refl _) _
      have hszA : A1.heap.size = wr.heap.size + 1 := by rw [hA1]; simp
      have hb2 : Below wr.heap.size wr w2 := hBA.trans (hB2.mono hBA.size)
      have hsz2 : wr.heap.size + 1 ≤ w2.heap.size := by have := hB2.size; omega
      have hbox : ∀ j, w2.cell? ⟨wr.heap.size, j, none⟩ = #[Value.int .i64 x.id, .int .i64 x.known, .int .i64 x.hour, .int .i64 x.parcel, .int .i64 x.price, .int .i64 x.carter, .int .i64 x.keeper, .int .i64 x.since, .int .i64 x.of_][j]? := fun j => by
        rw [hB2.cell (p := ⟨wr.heap.size, j, none⟩) (by rw [hszA]; exact Nat.lt_succ_self _), hA1]
        exact cell_of_row _ _ _ _ _ _ (heap_alloc_new wr _)
      clear hA1
      have hBl2 : w2.cell? ⟨Bl, 0, none⟩ = some (.slice (some ⟨b, off, none⟩) m cap) := ((hb2.cell (p := ⟨Bl, 0, none⟩) (show Bl < wr.heap.size by omega)).trans (hB.cell (p := ⟨Bl, 0, none⟩) hS1)).trans hBl
      have hBk2 : w2.cell? ⟨Bk, 0, none⟩ = some (.int .i64 known) := ((hb2.cell (p := ⟨Bk, 0, none⟩) (show Bk < wr.heap.size by omega)).trans (hB.cell (p := ⟨Bk, 0, none⟩) hS2)).trans hBk
      have hBl3 := cell_allocs hBl2
      have hBk3 := cell_allocs hBk2
      have hmf : ∀ (fn : Fn) (first cap : Array Value) (w : World), (Instr.makeFunc fn first cap).run Tryz.prog w = .ok (.func fn first cap) w := fun _ _ _ _ => rfl
      gi_wp2
      have eg : ∀ args w, (callFunc 150 args).run Tryz.prog w = .ok (.enter 150 args) w := enters_of Tryz.func150 (by kernel_rfl) rfl
      obtain ⟨A3, hA3⟩ : ∃ A3, A3 = w2.alloc (.cells #[.int .i64 x.head.id, .int .i64 x.head.known, .int .i64 x.head.of_] 137) := ⟨_, rfl⟩
      have hBA3 : Below w2.heap.size w2 A3 := hA3 ▸ (Below.refl _ w2).alloc (Nat.le_refl _) _
      have hszA3 : A3.heap.size = w2.heap.size + 1 := by rw [hA3]; simp
      have hent : ∀ j, A3.cell? ⟨w2.heap.size, j, none⟩ = #[Value.int .i64 x.head.id, .int .i64 x.head.known, .int .i64 x.head.of_][j]? := fun j => by
        rw [hA3]; exact cell_of_row _ _ _ _ _ _ (heap_alloc_new w2 _)
      have hB23 : Below wr.heap.size wr A3 := hb2.trans (hBA3.mono hb2.size)
      have hL3 : Lst A3 9 cS (some ⟨b, off, none⟩) m cap xs := ⟨hL.len, hL.le, hL.max, fun i y hy => by
        obtain ⟨b', off', ha, hlt', hr⟩ := hL.at_ i y hy
        cases ha
        exact ⟨b, off, rfl, by have := hB23.size; omega, rangeAt_below hB23 (by omega) (rangeAt_kp hB (hLb _ _ hne rfl) hr)⟩⟩
      rw [← hA3]; clear hA3
      refine (callsIn_wide.2 (contS_any (fun v => voids x.head v.head known) 150 #[.pointer (some ⟨w2.heap.size, 0, none⟩), .pointer (some ⟨Bk, 0, none⟩)] eg (some ⟨b, off, none⟩) m cap xs A3 hL3 (fun W' v hW' => voidS_any v x.head known w2.heap.size Bk W' ?_ ?_))).mono ?_
      · rw [hW'.cell (p := ⟨w2.heap.size, 0, none⟩) (by rw [hszA3]; exact Nat.lt_succ_self _), hent]; rfl
      · rw [hW'.cell (p := ⟨Bk, 0, none⟩) (show Bk < _ by rw [hszA3]; omega), hBA3.cell (p := ⟨Bk, 0, none⟩) (show Bk < _ by omega)]; exact hBk2
      rintro e w4 ⟨rfl, hB4⟩
      have hb4 : Below wr.heap.size wr w4 := hB23.trans (hB4.mono hB23.size)
      have hent4 : ∀ j, w4.cell? ⟨w2.heap.size, j, none⟩ = #[Value.int .i64 x.head.id, .int .i64 x.head.known, .int .i64 x.head.of_][j]? := fun j => by
        rw [hB4.cell (p := ⟨w2.heap.size, j, none⟩) (by rw [hszA3]; exact Nat.lt_succ_self _)]; exact hent j
      have hbox4 : ∀ j, w4.cell? ⟨wr.heap.size, j, none⟩ = #[Value.int .i64 x.id, .int .i64 x.known, .int .i64 x.hour, .int .i64 x.parcel, .int .i64 x.price, .int .i64 x.carter, .int .i64 x.keeper, .int .i64 x.since, .int .i64 x.of_][j]? := fun j => by
        rw [hB4.cell (p := ⟨wr.heap.size, j, none⟩) (show wr.heap.size < _ by omega), hBA3.cell (p := ⟨wr.heap.size, j, none⟩) (show wr.heap.size < _ by omega)]; exact hbox j
      have hBk4 : w4.cell? ⟨Bk, 0, none⟩ = some (.int .i64 known) := by
        rw [hB4.cell (p := ⟨Bk, 0, none⟩) (show Bk < _ by omega), hBA3.cell (p := ⟨Bk, 0, none⟩) (show Bk < _ by omega)]; exact hBk2
      have hJ4 := abides_below hJ HJ.out hb4
      have hcnt : counts (xs.map Sale.head) known x.head = (decide (x.head.of_ = 0) && decide (x.head.known ≤ known) && !(xs.any fun v => voids x.head v.head known)) := by
        rw [any_headS]; rfl
      have Hcnt := Lib.hid hcnt; clear hcnt
      have hlp : ((xs.take k).filter fun x => counts (xs.map Sale.head) known x.head).length < xs.length := by
        have h1 := List.length_filter_le (fun x => counts (xs.map Sale.head) known x.head) (xs.take k)
        have h2 := List.length_take_le k xs
        rw [hlen.out]; omega
      clear hbox hent hBl hBk hBl2 hBk2 hBl3 hBk3 hB2 hb2 hBA hr hr' hBA3 hL3 eg hmf
      have htake : (xs.take (k + 1)).filter (fun x => counts (xs.map Sale.head) known x.head) = ((xs.take k).filter fun x => counts (xs.map Sale.head) known x.head) ++ (if counts (xs.map Sale.head) known x.head then [x] else []) := by
        obtain ⟨h1, h2⟩ := List.getElem?_eq_some_iff.1 hX.out
        rw [List.take_succ_eq_append_getElem h1, h2, List.filter_append, List.filter_cons, List.filter_nil]
      have Htake := Lib.hid htake; clear htake
      generalize (xs.any fun v => voids x.head v.head known) = vd at *
      have hgo : counts (xs.map Sale.head) known x.head = false → ∀ w5, Below wr.heap.size wr w5 → J ((xs.take (k + 1)).filter fun x => counts (xs.map Sale.head) known x.head) w5 := fun hf w5 hb => by
        rw [Htake.out, hf]; simpa using abides_below hJ HJ.out hb
      have hBn : KpOn S W w4 := hB.trans (KpOn.of_below hb4 (fun k hk => by have := hSlt k hk; omega))
      by_cases g1 : (x.head.of_ == 0) = true
      · by_cases g2 : x.head.known ≤ known
        · cases vd with
          | true =>
            have Hf : Hid (counts (xs.map Sale.head) known x.head = false) := Lib.hid (by rw [Hcnt.out]; simp)
            gi_wp2
            refine ⟨fun _ h => (by cases h), ?_⟩
            gi_wp2
            go_roundw
            case rel => exact ⟨k + 1, by omega, by go_num, hBn, hgo Hf.out _ hb4⟩
            case measure => simp [intOf]; omega
          | false =>
            have Hf : Hid (counts (xs.map Sale.head) known x.head = true) := Lib.hid (by rw [Hcnt.out]; simp at g1; simp [g1, g2])
            obtain ⟨fn, tmps, assign, body, hy, hR⟩ := hY _ x w4 hJ4 hlp
            have htk : (xs.take (k + 1)).filter (fun x => counts (xs.map Sale.head) known x.head) = ((xs.take k).filter fun x => counts (xs.map Sale.head) known x.head) ++ [x] := by rw [Htake.out, Hf.out]; rfl
            have Htk := Lib.hid htk; clear htk
            gi_wp2
            refine hR.mono ?_
            rintro e w5 (⟨rfl, hJ5, hk5⟩ | ⟨rfl, hJx5⟩)
            · gi_wp2
              go_roundw
              case rel => exact ⟨k + 1, by omega, by go_num, hBn.trans hk5, by rw [Htk.out]; exact hJ5⟩
              case measure => simp [intOf]; omega
            · gi_wp2
              refine bodyPost_ret (results_none rfl _ _ _) rfl ?_
              refine ⟨⟨_, rfl⟩, .inr ⟨_, ?_, hJx5⟩⟩
              rw [← Htk.out]
              unfold cntS
              exact ⟨(xs.drop (k + 1)).filter fun x => counts (xs.map Sale.head) known x.head, by rw [← List.filter_append, List.take_append_drop]⟩
        · have Hf : Hid (counts (xs.map Sale.head) known x.head = false) := Lib.hid (by rw [Hcnt.out]; simp [g2])
          gi_wp2
          refine ⟨fun _ h => (by cases h), ?_⟩
          gi_wp2
          go_roundw
          case rel => exact ⟨k + 1, by omega, by go_num, hBn, hgo Hf.out _ hb4⟩
          case measure => simp [intOf]; omega
      · have g1' : (x.head.of_ == 0) = false := by simpa using g1
        clear g1
        have Hf : Hid (counts (xs.map Sale.head) known x.head = false) := Lib.hid (by rw [Hcnt.out]; simp at g1'; simp [g1'])
        gi_wp2
        refine ⟨fun _ h => (by cases h), ?_⟩
        gi_wp2
        go_roundw
        case rel => exact ⟨k + 1, by omega, by go_num, hBn, hgo Hf.out _ hb4⟩
        case measure => simp [intOf]; omega
    · obtain rfl : k = m := by omega
      have HJ := Lib.hid hJk; clear hJk
      gi_wp2
      go_end0
      refine ⟨⟨_, rfl⟩, .inl ⟨_, rfl, ?_⟩⟩
      have := HJ.out
      rw [List.take_of_length_le (by rw [hlen.out]; exact Nat.le_refl _)] at this
      exact this


/-- counting: the list and the hour are boxed; the function value captures the boxes. -/
theorem countingS_any (a : Option Addr) (m cap : Nat) (known : Int) (w : World) :
    Calls Tryz.prog 119 #[.slice a m cap, .int .i64 known] w fun e w' => e = .returned (.func (.func 149) #[] #[.pointer (some ⟨w.heap.size, 0, none⟩), .pointer (some ⟨w.heap.size + 1, 0, none⟩)]) ∧
      (w.alloc (.cells #[.slice a m cap] 22)).alloc (.cells #[.int .i64 known] 3) = w' := by
  have hmf : ∀ (fn : Fn) (first cap : Array Value) (w : World), (Instr.makeFunc fn first cap).run Tryz.prog w = .ok (.func fn first cap) w := fun _ _ _ _ => rfl
  go_enter Tryz.func119, Tryz.ntmps119
  go_wp2
  go_ret
  exact ⟨rfl, rfl⟩

/-- The iterator that counting hands back, in the world behind the call. -/
theorem countingS_stops (n : Nat) (hn : 1 ≤ n) (a : Option Addr) (m cap : Nat) (xs : List Sale) (known : Int) (w w2 : World) (hw : w2 = (w.alloc (.cells #[.slice a m cap] 22)).alloc (.cells #[.int .i64 known] 3)) (hL : Lst w 9 cS a m cap xs) :
    SeqStopsK Fence.wide n Tryz.prog 149 #[.pointer (some ⟨w.heap.size, 0, none⟩), .pointer (some ⟨w.heap.size + 1, 0, none⟩)] (fun x : Sale => #[aS x])
      (KpOn fun k => k = w.heap.size ∨ k = w.heap.size + 1 ∨ (xs ≠ [] ∧ ∃ off, a = some ⟨k, off, none⟩)) (fun ys => ys = cntS xs known) (fun pre => pre <+: cntS xs known) xs.length w2 := by
  intro l J Jx W hW hJ hJx hY h0
  have hsz : w2.heap.size = w.heap.size + 2 := by rw [hw]; simp
  have hB : Below w.heap.size w w2 := hw ▸ ((Below.refl _ w).alloc (Nat.le_refl _) _).alloc (by simp) _
  have hBW : Below w.heap.size w W := hB.trans (hW.mono hB.size)
  have hxs : xs ≠ [] → ∀ b off, a = some ⟨b, off, none⟩ → b < w.heap.size := by
    intro hne
    obtain ⟨x, xs', rfl⟩ := List.exists_cons_of_ne_nil hne
    obtain ⟨b, off, ha, hlt, _⟩ := hL.at_ 0 x rfl
    exact fun b' off' h => by rw [ha] at h; cases h; exact hlt
  have hc1 : W.cell? ⟨w.heap.size, 0, none⟩ = some (.slice a m cap) := by
    rw [hW.cell (p := ⟨w.heap.size, 0, none⟩) (show w.heap.size < _ by omega), hw]
    exact cell_allocs (by exact cell_of_row _ _ _ _ _ _ (heap_alloc_new w _)) _
  have hc2 : W.cell? ⟨w.heap.size + 1, 0, none⟩ = some (.int .i64 known) := by
    rw [hW.cell (p := ⟨w.heap.size + 1, 0, none⟩) (show w.heap.size + 1 < _ by omega), hw]
    exact cell_of_row _ _ _ _ _ _ (heap_alloc2_new w _ _)
  refine countingS1 n hn l w.heap.size (w.heap.size + 1) _ a m cap xs known J Jx W hJ hc1 hc2 (.inl rfl) (.inr (.inl rfl)) ?_ (hL.below hBW) (fun b off hne h => .inr (.inr ⟨hne, off, h⟩)) hY h0
  rintro k (rfl | rfl | ⟨hne, off, h⟩)
  · have := hW.size; omega
  · have := hW.size; omega
  · have := hxs hne k off h; have := hBW.size; omega

end Go.Proofs.YtkeppoiomjhkpaaGreatDoor

/-
  A region that draws its order inside a loop over an iterator: one walk, in the order of the text.
-/
namespace Go.Proofs.YtkeppoiomjhkpaaGreatDoor
open Go.RowKit Lg Go.Sort

section
variable {P : Program} {ops : Array Oper} {md : Region.Mode} {C : World → Prop} {r n : Nat}

theorem wpInRound_of_quiet {o : Oper} {a : Act} {K : Act → Prop} {K' : Act → World → Prop} {Q' : Exit → Act → World → Prop} {w : World} (hw : C w) (h : ∀ a w', C w' → K a → K' a w')
    (hh : o.quiet P a C K) : o.wpIn (Fence.wide.inRound r) n P a w K' Q' := by
  obtain ⟨v, h1, h2⟩ := hh
  have h3 := h1 w hw
  unfold Oper.quietAt at h3
  unfold Oper.wpIn
  refine ⟨fun _ _ => trivial, ?_⟩
  have hsem : (o.semAt (Fence.wide.inRound r).round a.eval) = execOp a.eval o := by
    refine Oper.semAt_eq _ _ _ (fun c hc => ?_)
    rw [show execOp a.eval o = (do pure (.defer (← resolve a.eval c o.type))) by unfold execOp; rw [hc]] at h3
    simp only [Sem.run_bind] at h3
    cases hr : (resolve a.eval c o.type).run P w with
    | ok d w' => rw [hr] at h3; simp [Result.andThen, Oper.quietUpon, pure] at h3
    | halt x w' => rw [hr] at h3; simp [Result.andThen, Oper.quietUpon] at h3
  rw [hsem]
  generalize (execOp a.eval o).run P w = res at *
  cases res with
  | ok x w' =>
    cases x <;> simp only [Oper.quietUpon] at h3 <;> simp only [Oper.uponIn]
    case value u =>
      obtain ⟨e1, e2⟩ := h3
      rw [e1, e2]
      exact h _ _ hw h2
    case skip =>
      obtain ⟨e1, e2⟩ := h3
      rw [e1, ← e2]
      exact h _ _ hw h2
    case enter f args =>
      obtain ⟨e1, hc⟩ := h3
      rw [e1]
      exact ⟨fun h => by simp [Fence.wide] at h, CallsIn.inRound r (callsIn_wide.2 (hc.mono fun e w'' ⟨he, hw''⟩ => by subst he; exact h _ _ hw'' h2))⟩
  | halt x w' => simp only [Oper.quietUpon] at h3

theorem wpOpInRound_of_qOp {i : Nat} {a : Act} {K : Act → Prop} {K' : Act → World → Prop} {Q' : Exit → Act → World → Prop} {w : World} (hC : C w) (h : ∀ a w', C w' → K a → K' a w')
    (hh : qOp P ops C i K a) : wpOpIn (Fence.wide.inRound r) n P ops Q' i K' a w := by
  unfold qOp at hh
  unfold wpOpIn
  split
  · rename_i ho; simp only [ho] at hh; exact h _ _ hC hh
  · rename_i o ho
    simp only [ho] at hh
    split
    · rename_i hw; simp only [hw, if_true] at hh; exact wpInRound_of_quiet hC h hh
    · rename_i hw; simp only [hw] at hh; exact ⟨fun _ _ => trivial, h _ _ hC hh⟩

theorem wpAnyInRound_of_quiet {Q : Act → Prop} {Q' : Exit → Act → World → Prop} (hQ : ∀ a w, C w → Q a → Q' .normal a w) : ∀ (fuel : Nat) (listed : Array Bool) (a : Act) (w : World), C w →
    wpAnyQ P md ops C Q fuel listed a → wpAnyIn (Fence.wide.inRound r) n P md ops Q' fuel listed a w
  | 0, _, _, _, hw, h => ⟨h.1, hQ _ _ hw h.2⟩
  | fuel + 1, _, _, _, hw, h => ⟨fun h0 => hQ _ _ hw (h.1 h0), fun i hi => wpOpInRound_of_qOp hw (fun a' w' hw' => wpAnyInRound_of_quiet hQ fuel _ a' w' hw') (h.2 i hi)⟩

theorem wpInRound_region_quiet {id : Nat} {Q : Exit → Act → World → Prop} {a : Act} {w : World} (hm : P.follows .mixedOrders = true) (hB : Region.lexB .any ops = true) (hC : C { w with drawn := w.drawn + 1 })
    (h : wpQuiet P ops C (fun a' => ∀ w', C w' → Q .normal a' w') ops.toList a) : (Code.region id ops true).wpIn (Fence.wide.inRound r) n P Q a w := by
  simp only [Region.lexB, Bool.and_eq_true] at hB
  refine wpIn_region_any hm (wpAnyInRound_of_quiet (Q := fun a' => ∀ w', C w' → Q .normal a' w') (fun _ w' hw' h => h w' hw') _ _ _ _ hC ?_)
  have := wpAnyQ_lex (C := C) (md := .any) hB.1 ops.toList 0 (Array.replicate ops.size false) a (by simp) (by simpa using hB.2) h
  simpa using this

theorem wpInRound_region_quiet_lit {id : Nat} {Q : Exit → Act → World → Prop} {a : Act} {w : World} {l : List Oper} (hm : P.follows .mixedOrders = true) (hB : Region.lexB .any l.toArray = true)
    (h : wpQuiet P l.toArray (fun w' => ∃ n, w' = w.drewN n) (fun a' => ∀ w', (∃ n, w' = w.drewN n) → Q .normal a' w') l a) : (Code.region id l.toArray true).wpIn (Fence.wide.inRound r) n P Q a w :=
  wpInRound_region_quiet (C := fun w' => ∃ n, w' = w.drewN n) hm hB ⟨1, rfl⟩ (by simpa using h)
end

end Go.Proofs.YtkeppoiomjhkpaaGreatDoor
