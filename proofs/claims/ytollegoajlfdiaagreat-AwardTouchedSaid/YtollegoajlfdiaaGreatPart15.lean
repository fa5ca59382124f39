import Derived.Test.YtollegoajlfdiaaGreatPart10
import Derived.Test.YtollegoajlfdiaaGreatPart06
import Derived.Test.YtollegoajlfdiaaGreatPart04
import Derived.Maps.OwnOps
import Derived.Maps.OwnSet
import Derived.Lib.SlKeysI
import Derived.Test.YtollegoajlfdiaaGreatPart12
import Derived.Test.YtollegoajlfdiaaGreatPart14
/-
  Walk: the sums of shares, in a map of the call's own.
-/
namespace Go.Proofs.YtollegoajlfdiaaGreat
open Go.RowKit Lg Go.Sort Go.Shelf Go.Maps

/-- The map holds just the numbers of f that are not 0. -/
def MapF (D : DataW Unit) (f : Int → Int) : Prop :=
  IsMap D ∧ ∀ k : Int, D.atKey (.int .i64 k) (.lit (.int .i64 0)) = .lit (.int .i64 (f k)) ∧ has D (.int .i64 k) = decide (f k ≠ 0)

def upd (f : Int → Int) (p v : Int) : Int → Int := fun q => if q = p then v else f q

theorem isKeyI (k : Int) : WideAt.IsKeyLit (.int .i64 k) := trivial
theorem MapF.put {D : DataW Unit} {f : Int → Int} (h : MapF D f) (p v : Int) (hv : v ≠ 0) : MapF (D.put (.int .i64 p) (.lit (.int .i64 v))) (upd f p v) := by
  refine ⟨h.1.put _ _, fun k => ?_⟩
  unfold upd
  by_cases hk : k = p
  · subst hk
    rw [atKey_put_same h.1 (isKeyI _), has_put_same h.1 (isKeyI _), if_pos rfl]
    exact ⟨rfl, by simp [hv]⟩
  · have hne : (Lit.int .i64 k) ≠ .int .i64 p := by simpa using hk
    rw [atKey_put_other hne, has_put_other hne, if_neg hk]
    exact h.2 k

theorem MapF.del {D : DataW Unit} {f : Int → Int} (h : MapF D f) (p : Int) (d : DataW Unit) : MapF ((D.put (.int .i64 p) d).del (.int .i64 p)) (upd f p 0) := by
  refine ⟨?_, fun k => ?_⟩
  · obtain ⟨es, rfl⟩ := h.1; exact ⟨_, rfl⟩
  unfold upd
  by_cases hk : k = p
  · subst hk
    rw [atKey_del_same, has_del_same, if_pos rfl]
    exact ⟨rfl, by simp⟩
  · have hne : (Lit.int .i64 k) ≠ .int .i64 p := by simpa using hk
    rw [atKey_del_other hne, has_del_other hne, atKey_put_other hne, has_put_other hne, if_neg hk]
    exact h.2 k

theorem MapF.congr {D : DataW Unit} {f g : Int → Int} (h : MapF D f) (e : ∀ p, f p = g p) : MapF D g := by
  rw [show g = f from funext fun p => (e p).symm]; exact h

theorem MapF.empty : MapF (.map []) (fun _ => 0) := ⟨⟨[], rfl⟩, fun _k => ⟨rfl, rfl⟩⟩

theorem lawI : Keyed Tryz.prog 3 := int_keyed Tryz.underlying3
theorem zeroI (w : World) : (zeroValue 3).run Tryz.prog w = .ok (.int .i64 0) w := by kernel_rfl

/-- What a map of the call's own holds. -/
def OwnM (b n : Nat) (f : Int → Int) (w : World) : Prop := ∃ D : DataW Unit, w.ownsMap Tryz.prog 3 (plainElem Tryz.prog 3) b n D ∧ MapF D f

theorem key_small (k : Int) (h : 0 ≤ k ∧ k ≤ 40) : keyOf Tryz.prog 3 (.int .i64 k) = some (.int .i64 k) := keyOf_int_mk Tryz.underlying3 (WalkArith.wf_i64 (by omega))

set_option maxRecDepth 100000 in
/-- A look-up whose answer is known. -/
theorem wpList_lookup_known (w : World) {ops : Array Oper} {rest : List Oper} {o : Oper} {a : Act} {Q : Exit → Act → World → Prop} (hg : o.guard = none) (m x : Operand) (hop : o.op = Op.lookup 111 m x false)
    (b n : Nat) (D : DataW Unit) (hm : a.eval m = .map (some b)) (hown : w.ownsMap Tryz.prog 3 (plainElem Tryz.prog 3) b n D) (key : Value) (kl : Lit) (hx : a.eval x = key) (hkey : keyOf Tryz.prog 3 key = some kl)
    (c : Int) (hat : D.atKey kl (.lit (.int .i64 0)) = .lit (.int .i64 c)) (h : wpList Tryz.prog ops Q rest (a.put o.dst (.int .i64 c)) w) : wpList Tryz.prog ops Q (o :: rest) a w :=
  wpList_lookup_own_int w hg m x 111 hop 3 3 .i64 lawI Tryz.underlying111 Tryz.underlying3 (zeroI _) b n D hm hown key kl hx hkey fun c' h' _ => by
    rw [hat] at h'
    have : c = c' := by injection h' with h'; injection h'
    subst this
    exact h

set_option maxRecDepth 100000 in
set_option maxHeartbeats 1600000 in
theorem sums1_any (a : Option Addr) (n cap : Nat) (xs : List Share) (b nn : Nat) (f : Int → Int) (w : World) (hn : n ≤ 1100) (hnn : nn ≤ 1100) (ho : OwnM b nn f w)
    (hL : ∀ W', RowKit.Below b w W' → Lst W' 2 cSh a n cap xs) (hx : ∀ x ∈ xs, 0 ≤ x.party ∧ x.party ≤ 40 ∧ -1000000000 ≤ x.pence ∧ x.pence ≤ 1000000000) (hf : ∀ p, -2000000000000 ≤ f p ∧ f p ≤ 2000000000000) :
    Calls Tryz.prog 84 #[.slice a n cap, .int .i64 1, .map (some b)] w fun e w' => e = .returned (.map (some b)) ∧ OwnM b (nn + n) (fun p => f p + 1 * sumP xs p) w' ∧ RowKit.Below b w w' := by
  have hL0 := hL w (Below.refl _ _)
  have hlen := Lib.hid hL0.len
  have hm : cap ≤ 9223372036854775807 := by have := hL0.max; unfold maxLen at this; omega
  have hle := hL0.le
  clear hL0
  have hbl0 : b < w.heap.size := by obtain ⟨D, h, _⟩ := ho; exact h.lt
  · go_enter Tryz.func84, Tryz.ntmps84
    go_wp2
    go_loopw [11] (fun i wr => ∃ k : Nat, k ≤ n ∧ i = .int .i64 k ∧ OwnM b (nn + k) (fun p => f p + 1 * sumP (xs.take k) p) wr ∧ RowKit.Below b w wr ∧ b < wr.heap.size) (fun i _ => n - (intOf i).toNat)
    case atStart =>
      obtain ⟨D, h1, h2⟩ := ho
      exact ⟨0, Nat.zero_le _, rfl, ⟨D, h1, h2.congr (fun p => by simp [sumP])⟩, Below.refl _ _, h1.lt⟩
    case round =>
      obtain ⟨k, hk, rfl, ⟨D, hown, hMF⟩, hB, hbl⟩ := hrel
      by_cases hlt : k < n
      · obtain ⟨x, hxk⟩ : ∃ x, xs[k]? = some x := ⟨xs[k]'(by rw [hlen.out]; exact hlt), by simp⟩
        obtain ⟨bb, off, rfl, hbb, hr⟩ := (hL wr hB).at_ k x hxk
        obtain ⟨hx1, hx2, hx3, hx4⟩ := hx x (List.mem_of_getElem? hxk)
        have hkey := key_small x.party ⟨hx1, hx2⟩
        have htk : ∀ p, sumP (xs.take (k + 1)) p = sumP (xs.take k) p + (if x.party = p then x.pence else 0) := fun p => by
          obtain ⟨h1, h2⟩ := List.getElem?_eq_some_iff.1 hxk
          rw [List.take_succ_eq_append_getElem h1, h2, sumP_append]
          simp [sumP]
        have hsb := sumP_bound (xs.take k) x.party 1000000000 (by omega) (fun y hy => (hx y (List.mem_of_mem_take hy)).2.2)
        have hlk : (xs.take k).length ≤ 1100 := Nat.le_trans (List.length_take_le _ _) (by omega)
        have hfb := hf x.party
        obtain ⟨c, hc⟩ : ∃ c, c = f x.party + 1 * sumP (xs.take k) x.party := ⟨_, rfl⟩
        have hcb : -4000000000000 ≤ c ∧ c ≤ 4000000000000 := by omega
        obtain ⟨hcb1, hcb2⟩ := hcb
        have hat0 : D.atKey (.int .i64 x.party) (.lit (.int .i64 0)) = .lit (.int .i64 c) := by rw [hc]; exact (hMF.2 x.party).1
        have Hat := Lib.hid hat0
        have HM := Lib.hid hMF
        have Hc := Lib.hid hc
        have Htk := Lib.hid htk
        have Hxk := Lib.hid hxk
        clear hsb hlk hfb hat0 hMF hc htk hxk
        have hown' : (wr.alloc (.cells #[.int .i64 x.party, .int .i64 x.pence] 69)).ownsMap Tryz.prog 3 (plainElem Tryz.prog 3) b (nn + k) D := hown.alloc _
        go_wp2_with (first
          | (refine wpList_load_mid rfl 69 _ rfl bb (off + k * 2) rfl (cSh x) _ hr Tryz.underlying69 rfl (by kernel_rfl) ?_)
          | (at_lookup; refine wpList_lookup_known _ rfl _ _ rfl b (nn + k) D rfl hown' _ _ rfl hkey c Hat.out ?_)
          | (at_mapUpdate; refine wpList_mapUpdate_own _ rfl _ _ _ 111 rfl 3 3 lawI Tryz.underlying111 _ b (nn + k) _ rfl hown' (by unfold maxLen; omega) _ _ _ rfl rfl hkey _ [] (plainElem_int Tryz.underlying3 (WalkArith.wf_i64 (by omega))) ?_; intro w1 hown1 hgrow1; have kx := (Blk.new wr 69 #[.int .i64 x.party, .int .i64 x.pence]).kept hgrow1 (by simp; omega); have cx := kx.cell; have hw1 := hgrow1.size)
          | (at_lookup; refine wpList_lookup_known _ rfl _ _ rfl b (nn + k + 1) _ rfl hown1 _ _ rfl hkey _ (atKey_put_same HM.out.1 (isKeyI _) _ _) ?_)
          | (at_delete; refine wpList_delete_own _ rfl _ _ 111 3 rfl 3 lawI Tryz.underlying111 _ b (nn + k + 1) _ rfl hown1 _ _ rfl hkey ?_; intro w2 hown2 hturn2)
          | fail)
        · rename_i hz
          have hz' : c + 1 * x.pence = 0 := by have h := hz; simp at h; omega
          clear hz
          go_roundw
          case rel =>
            refine ⟨k + 1, by omega, by go_num, ⟨_, hown2, (HM.out.del x.party _).congr (fun q => ?_)⟩, below_of_grown (below_of_grown (hB.alloc (Nat.le_of_lt (Nat.lt_of_lt_of_le hbl0 hB.size)) _) (Nat.le_of_lt hbl0) hgrow1 (fun r e => by cases e; exact Nat.le_refl _)) (Nat.le_of_lt hbl0) hturn2.grown (fun r e => by cases e; exact Nat.le_refl _), by have := hturn2.grown.size; simp at hw1; omega⟩
            have h1 := Htk.out q
            have h2 := Hc.out
            unfold upd
            by_cases hq : q = x.party
            · subst hq
              rw [if_pos rfl] at h1 ⊢
              (try dsimp only)
              omega
            · rw [if_neg (fun h => hq h.symm)] at h1
              rw [if_neg hq]; dsimp only; rw [h1]; omega
          case measure => simp [intOf]; omega
        · rename_i hz
          have hz' : c + 1 * x.pence ≠ 0 := by have h := hz; simp at h; omega
          clear hz
          go_roundw
          case rel =>
            refine ⟨k + 1, by omega, by go_num, ⟨_, hown1, (HM.out.put x.party _ (by omega)).congr (fun q => ?_)⟩, below_of_grown (hB.alloc (Nat.le_of_lt (Nat.lt_of_lt_of_le hbl0 hB.size)) _) (Nat.le_of_lt hbl0) hgrow1 (fun r e => by cases e; exact Nat.le_refl _), by simp at hw1; omega⟩
            have h1 := Htk.out q
            have h2 := Hc.out
            unfold upd
            by_cases hq : q = x.party
            · subst hq
              rw [if_pos rfl] at h1 ⊢
              (try dsimp only)
              omega
            · rw [if_neg (fun h => hq h.symm)] at h1
              rw [if_neg hq]; dsimp only; rw [h1]; omega
          case measure => simp [intOf]; omega
      · obtain rfl : k = n := by omega
        rw [List.take_of_length_le (by rw [hlen.out]; exact Nat.le_refl _)] at hMF
        go_wp2
        go_ret
        exact ⟨rfl, ⟨D, hown, hMF⟩, hB⟩

set_option maxRecDepth 100000 in
set_option maxHeartbeats 1600000 in
theorem sumsN_any (a : Option Addr) (n cap : Nat) (xs : List Share) (b nn : Nat) (f : Int → Int) (w : World) (hn : n ≤ 1100) (hnn : nn ≤ 1100) (ho : OwnM b nn f w)
    (hL : ∀ W', RowKit.Below b w W' → Lst W' 2 cSh a n cap xs) (hx : ∀ x ∈ xs, 0 ≤ x.party ∧ x.party ≤ 40 ∧ -1000000000 ≤ x.pence ∧ x.pence ≤ 1000000000) (hf : ∀ p, -2000000000000 ≤ f p ∧ f p ≤ 2000000000000) :
    Calls Tryz.prog 84 #[.slice a n cap, .int .i64 (-1), .map (some b)] w fun e w' => e = .returned (.map (some b)) ∧ OwnM b (nn + n) (fun p => f p + (-1) * sumP xs p) w' ∧ RowKit.Below b w w' := by
  have hL0 := hL w (Below.refl _ _)
  have hlen := Lib.hid hL0.len
  have hm : cap ≤ 9223372036854775807 := by have := hL0.max; unfold maxLen at this; omega
  have hle := hL0.le
  clear hL0
  have hbl0 : b < w.heap.size := by obtain ⟨D, h, _⟩ := ho; exact h.lt
  · go_enter Tryz.func84, Tryz.ntmps84
    go_wp2
    go_loopw [11] (fun i wr => ∃ k : Nat, k ≤ n ∧ i = .int .i64 k ∧ OwnM b (nn + k) (fun p => f p + (-1) * sumP (xs.take k) p) wr ∧ RowKit.Below b w wr ∧ b < wr.heap.size) (fun i _ => n - (intOf i).toNat)
    case atStart =>
      obtain ⟨D, h1, h2⟩ := ho
      exact ⟨0, Nat.zero_le _, rfl, ⟨D, h1, h2.congr (fun p => by simp [sumP])⟩, Below.refl _ _, h1.lt⟩
    case round =>
      obtain ⟨k, hk, rfl, ⟨D, hown, hMF⟩, hB, hbl⟩ := hrel
      by_cases hlt : k < n
      · obtain ⟨x, hxk⟩ : ∃ x, xs[k]? = some x := ⟨xs[k]'(by rw [hlen.out]; exact hlt), by simp⟩
        obtain ⟨bb, off, rfl, hbb, hr⟩ := (hL wr hB).at_ k x hxk
        obtain ⟨hx1, hx2, hx3, hx4⟩ := hx x (List.mem_of_getElem? hxk)
        have hkey := key_small x.party ⟨hx1, hx2⟩
        have htk : ∀ p, sumP (xs.take (k + 1)) p = sumP (xs.take k) p + (if x.party = p then x.pence else 0) := fun p => by
          obtain ⟨h1, h2⟩ := List.getElem?_eq_some_iff.1 hxk
          rw [List.take_succ_eq_append_getElem h1, h2, sumP_append]
          simp [sumP]
        have hsb := sumP_bound (xs.take k) x.party 1000000000 (by omega) (fun y hy => (hx y (List.mem_of_mem_take hy)).2.2)
        have hlk : (xs.take k).length ≤ 1100 := Nat.le_trans (List.length_take_le _ _) (by omega)
        have hfb := hf x.party
        obtain ⟨c, hc⟩ : ∃ c, c = f x.party + (-1) * sumP (xs.take k) x.party := ⟨_, rfl⟩
        have hcb : -4000000000000 ≤ c ∧ c ≤ 4000000000000 := by omega
        obtain ⟨hcb1, hcb2⟩ := hcb
        have hat0 : D.atKey (.int .i64 x.party) (.lit (.int .i64 0)) = .lit (.int .i64 c) := by rw [hc]; exact (hMF.2 x.party).1
        have Hat := Lib.hid hat0
        have HM := Lib.hid hMF
        have Hc := Lib.hid hc
        have Htk := Lib.hid htk
        have Hxk := Lib.hid hxk
        clear hsb hlk hfb hat0 hMF hc htk hxk
        have hown' : (wr.alloc (.cells #[.int .i64 x.party, .int .i64 x.pence] 69)).ownsMap Tryz.prog 3 (plainElem Tryz.prog 3) b (nn + k) D := hown.alloc _
        go_wp2_with (first
          | (refine wpList_load_mid rfl 69 _ rfl bb (off + k * 2) rfl (cSh x) _ hr Tryz.underlying69 rfl (by kernel_rfl) ?_)
          | (at_lookup; refine wpList_lookup_known _ rfl _ _ rfl b (nn + k) D rfl hown' _ _ rfl hkey c Hat.out ?_)
          | (at_mapUpdate; refine wpList_mapUpdate_own _ rfl _ _ _ 111 rfl 3 3 lawI Tryz.underlying111 _ b (nn + k) _ rfl hown' (by unfold maxLen; omega) _ _ _ rfl rfl hkey _ [] (plainElem_int Tryz.underlying3 (WalkArith.wf_i64 (by omega))) ?_; intro w1 hown1 hgrow1; have kx := (Blk.new wr 69 #[.int .i64 x.party, .int .i64 x.pence]).kept hgrow1 (by simp; omega); have cx := kx.cell; have hw1 := hgrow1.size)
          | (at_lookup; refine wpList_lookup_known _ rfl _ _ rfl b (nn + k + 1) _ rfl hown1 _ _ rfl hkey _ (atKey_put_same HM.out.1 (isKeyI _) _ _) ?_)
          | (at_delete; refine wpList_delete_own _ rfl _ _ 111 3 rfl 3 lawI Tryz.underlying111 _ b (nn + k + 1) _ rfl hown1 _ _ rfl hkey ?_; intro w2 hown2 hturn2)
          | fail)
        · rename_i hz
          have hz' : c + (-1) * x.pence = 0 := by have h := hz; simp at h; omega
          clear hz
          go_roundw
          case rel =>
            refine ⟨k + 1, by omega, by go_num, ⟨_, hown2, (HM.out.del x.party _).congr (fun q => ?_)⟩, below_of_grown (below_of_grown (hB.alloc (Nat.le_of_lt (Nat.lt_of_lt_of_le hbl0 hB.size)) _) (Nat.le_of_lt hbl0) hgrow1 (fun r e => by cases e; exact Nat.le_refl _)) (Nat.le_of_lt hbl0) hturn2.grown (fun r e => by cases e; exact Nat.le_refl _), by have := hturn2.grown.size; simp at hw1; omega⟩
            have h1 := Htk.out q
            have h2 := Hc.out
            unfold upd
            by_cases hq : q = x.party
            · subst hq
              rw [if_pos rfl] at h1 ⊢
              (try dsimp only)
              omega
            · rw [if_neg (fun h => hq h.symm)] at h1
              rw [if_neg hq]; dsimp only; rw [h1]; omega
          case measure => simp [intOf]; omega
        · rename_i hz
          have hz' : c + (-1) * x.pence ≠ 0 := by have h := hz; simp at h; omega
          clear hz
          go_roundw
          case rel =>
            refine ⟨k + 1, by omega, by go_num, ⟨_, hown1, (HM.out.put x.party _ (by omega)).congr (fun q => ?_)⟩, below_of_grown (hB.alloc (Nat.le_of_lt (Nat.lt_of_lt_of_le hbl0 hB.size)) _) (Nat.le_of_lt hbl0) hgrow1 (fun r e => by cases e; exact Nat.le_refl _), by simp at hw1; omega⟩
            have h1 := Htk.out q
            have h2 := Hc.out
            unfold upd
            by_cases hq : q = x.party
            · subst hq
              rw [if_pos rfl] at h1 ⊢
              (try dsimp only)
              omega
            · rw [if_neg (fun h => hq h.symm)] at h1
              rw [if_neg hq]; dsimp only; rw [h1]; omega
          case measure => simp [intOf]; omega
      · obtain rfl : k = n := by omega
        rw [List.take_of_length_le (by rw [hlen.out]; exact Nat.le_refl _)] at hMF
        go_wp2
        go_ret
        exact ⟨rfl, ⟨D, hown, hMF⟩, hB⟩

end Go.Proofs.YtollegoajlfdiaaGreat

/-
  Sets of numbers, in a map of the call's own.
-/
namespace Go.Proofs.YtollegoajlfdiaaGreat
open Go.RowKit Lg Go.Sort Go.Shelf Go.Maps

/-- D says of each number whether it is there. -/
def SetF (D : DataW Unit) (f : Int → Bool) : Prop := IsMap D ∧ ∀ k : Int, D.atKey (.int .i64 k) (.lit (.bool false)) = .lit (.bool (f k))

theorem SetF.empty : SetF (.map []) (fun _ => false) := ⟨⟨[], rfl⟩, fun _ => rfl⟩
theorem SetF.congr {D : DataW Unit} {f g : Int → Bool} (h : SetF D f) (e : ∀ p, f p = g p) : SetF D g := by
  rw [show g = f from funext fun p => (e p).symm]; exact h
theorem SetF.put {D : DataW Unit} {f : Int → Bool} (h : SetF D f) (p : Int) : SetF (D.put (.int .i64 p) (.lit (.bool true))) (fun q => decide (q = p) || f q) := by
  refine ⟨h.1.put _ _, fun k => ?_⟩
  by_cases hk : k = p
  · subst hk
    rw [atKey_put_same h.1 (isKeyI _)]; simp
  · have hne : (Lit.int .i64 k) ≠ .int .i64 p := by simpa using hk
    rw [atKey_put_other hne, h.2 k]; simp [hk]

theorem zeroB (w : World) : (zeroValue 4).run Tryz.prog w = .ok (.bool false) w := by kernel_rfl

/-- The call's own set. -/
def OwnSt (b n : Nat) (f : Int → Bool) (w : World) : Prop := ∃ D : DataW Unit, w.ownsMap Tryz.prog 3 (plainElem Tryz.prog 4) b n D ∧ SetF D f

theorem OwnSt.made (w : World) : OwnSt w.heap.size 0 (fun _ => false) (w.alloc (.map #[] 0)) := ⟨_, World.ownsMap_made _ _ _ _, SetF.empty⟩
theorem OwnSt.lt {b n : Nat} {f : Int → Bool} {w : World} (h : OwnSt b n f w) : b < w.heap.size := by obtain ⟨D, h, _⟩ := h; exact h.lt
theorem OwnSt.kept {b n : Nat} {f : Int → Bool} {w w' : World} {row : Option Nat} (h : OwnSt b n f w) (hg : w.grownBy w' row) (hne : some b ≠ row) : OwnSt b n f w' := by
  obtain ⟨D, h1, h2⟩ := h
  exact ⟨D, h1.kept hg hne, h2⟩
theorem OwnSt.alloc {b n : Nat} {f : Int → Bool} {w : World} (h : OwnSt b n f w) (o : Obj) : OwnSt b n f (w.alloc o) := h.kept (World.grownBy_alloc w o none) (by simp)
theorem OwnSt.below {b n : Nat} {f : Int → Bool} {w w' : World} (h : OwnSt b n f w) (hb : RowKit.Below w.heap.size w w') : OwnSt b n f w' := h.kept (row := none) ⟨hb.os, hb.tape, hb.output, hb.size, fun k hk _ => hb.block k hk⟩ (by simp)

set_option maxRecDepth 100000 in
theorem plainElem_bool_inv {v : Value} {z : DataW Unit × List MemPlace} (h : plainElem Tryz.prog 4 v = some z) : ∃ x, v = .bool x ∧ z = (.lit (.bool x), []) := by
  unfold plainElem at h
  rw [Tryz.underlying4] at h
  cases v <;> simp at h
  exact ⟨_, rfl, h.symm⟩

set_option maxRecDepth 100000 in
/-- What a look-up gives. -/
theorem OwnSt.look {b n : Nat} {f : Int → Bool} {w : World} (h : OwnSt b n f w) (p : Int) (hw : (Lit.int .i64 p).wf = true) : (Instr.lookup 96 (.map (some b)) (.int .i64 p) false).run Tryz.prog w = .ok (.bool (f p)) w := by
  obtain ⟨D, h1, h2⟩ := h
  obtain ⟨v, ps, hrun, hv⟩ := h1.lookup lawI Tryz.underlying96 (zeroB w) (plainElem_bool Tryz.underlying4 false) (keyOf_int_mk Tryz.underlying3 hw)
  obtain ⟨x, rfl, hz⟩ := plainElem_bool_inv hv
  simp only [Prod.mk.injEq] at hz
  rw [h2.2 p] at hz
  obtain ⟨hz, _⟩ := hz
  have : f p = x := by injection hz with hz; injection hz
  rw [hrun, this]

end Go.Proofs.YtollegoajlfdiaaGreat

/-
  Plain functions: how pence are divided by titles.
-/
namespace Lg
open Go

def titOk (l : List Title) : Bool := (l.all fun t => inn t.party 0 40) && decide ((l.map Title.party).Nodup)
def sumI : List Int → Int
  | [] => 0
  | x :: r => x + sumI r
/-- The shares, what is left, the error. -/
def divideOf (pence : Int) (l : List Title) : (List Share × Int) × Int :=
  if titOk l = true then
    if (splitOf pence (l.map Title.share)).2 = 0 then ((List.zipWith Share.mk (l.map Title.party) (splitOf pence (l.map Title.share)).1, pence - sumI (splitOf pence (l.map Title.share)).1), 0)
    else (([], 0), (splitOf pence (l.map Title.share)).2)
  else (([], 0), 1)

theorem sumI_append (a b : List Int) : sumI (a ++ b) = sumI a + sumI b := by
  induction a with
  | nil => rw [List.nil_append, sumI]; omega
  | cons x r ih => rw [List.cons_append, sumI, sumI, ih]; omega

theorem sumI_bound {l : List Int} {M : Int} (h : ∀ v ∈ l, 0 ≤ v ∧ v ≤ M) : 0 ≤ sumI l ∧ sumI l ≤ M * l.length := by
  induction l with
  | nil => simp [sumI]
  | cons x r ih =>
    have h1 := h x List.mem_cons_self
    have h2 := ih (fun y hy => h y (List.mem_cons_of_mem _ hy))
    rw [sumI, List.length_cons, Int.natCast_add, Int.mul_add]
    simp; omega

theorem titOk_snoc (l : List Title) (x : Title) : titOk (l ++ [x]) = (titOk l && (inn x.party 0 40 && !decide (x.party ∈ l.map Title.party))) := by
  unfold titOk
  rw [List.all_append, List.map_append, Bool.eq_iff_iff]
  have h : (l.map Title.party ++ [x].map Title.party).Nodup ↔ (l.map Title.party).Nodup ∧ x.party ∉ l.map Title.party := by
    rw [List.nodup_append]
    simp only [List.map_cons, List.map_nil, List.nodup_cons, List.not_mem_nil, not_false_eq_true, List.nodup_nil, and_true, List.mem_singleton, true_and, ne_eq]
    constructor
    · rintro ⟨h1, h2⟩; exact ⟨h1, fun e => h2 _ e _ rfl rfl⟩
    · rintro ⟨h1, h2⟩; exact ⟨h1, fun a ha b hb e => h2 (by rw [← hb, ← e]; exact ha)⟩
  simp only [Bool.and_eq_true, decide_eq_true_eq, h, List.all_cons, List.all_nil, Bool.and_true, Bool.not_eq_true', decide_eq_false_iff_not]
  constructor
  · rintro ⟨⟨a, b⟩, c, d⟩; exact ⟨⟨a, c⟩, b, d⟩
  · rintro ⟨⟨a, c⟩, b, d⟩; exact ⟨⟨a, b⟩, c, d⟩

theorem titOk_prefix {l : List Title} (k : Nat) (h : titOk l = true) : titOk (l.take k) = true := by
  unfold titOk at *
  rw [Bool.and_eq_true, List.all_eq_true, decide_eq_true_eq] at *
  refine ⟨fun x hx => h.1 x (List.mem_of_mem_take hx), ?_⟩
  rw [List.map_take]
  exact h.2.sublist (List.take_sublist _ _)

/-- Parts that are handed back are from 0 on. -/
theorem splitOf_bd {total : Int} {l : List Frac} (h : (splitOf total l).2 = 0) : (splitOf total l).1.length = l.length ∧ l.length ≤ 41 ∧ 0 ≤ total ∧ total ≤ 1000000000 ∧ ∀ v ∈ (splitOf total l).1, 0 ≤ v ∧ v ≤ 1000000041 := by
  unfold splitOf at h ⊢
  by_cases h1 : 41 < l.length
  · rw [if_pos h1] at h; cases h
  rw [if_neg h1] at h ⊢
  by_cases h2 : splitFine total l = false
  · rw [if_pos h2] at h; cases h
  rw [if_neg h2] at h ⊢
  have hf : splitFine total l = true := by simpa using h2
  obtain ⟨f0, f1, fa⟩ := fine_all hf
  by_cases h3 : (sumOf l).2 ≠ 0
  · rw [if_pos h3] at h; exact absurd h h3
  rw [if_neg h3] at h ⊢
  by_cases h4 : (sumOf l).1.den < (sumOf l).1.num
  · rw [if_pos h4] at h; cases h
  rw [if_neg h4]
  refine ⟨by rw [incr_length, List.length_map], by omega, f0, f1, fun v hv => ?_⟩
  have hb := incr_bound (l.map (baseF total)) ((splitOrder total l).toList.take (splitLeft total l).toNat) 1000000000 (fun v hv => by
    obtain ⟨f, hf, rfl⟩ := List.mem_map.1 hv
    have h := fa f hf
    exact ⟨(baseF_bd f0 h.2.1 h.2.2.1).1, Int.le_trans (baseF_le f0 h.2.1 h.2.2.1 h.2.2.2) f1⟩) (by omega) v hv
  have hsz : ((splitOrder total l).toList.take (splitLeft total l).toNat).length ≤ l.length := by
    rw [List.length_take, Array.length_toList]
    have hss : (splitOrder total l).size = l.length := by unfold splitOrder; rw [stableS_size]; simp
    omega
  omega

end Lg

/-
  Walk: award.Divide.
-/
namespace Go.Proofs.YtollegoajlfdiaaGreat
open Go.RowKit Lg Go.Sort Go.Shelf Go.Maps

/-- A call hands back shares of its own, what is left, and an error. -/
def GivesD (w : World) (r : (List Share × Int) × Int) (en : Ending) (w' : World) : Prop :=
  ∃ v, en = .returned (.tuple #[v, .int .i64 r.1.2, .int .i64 r.2]) ∧ w'.ownsRow w.heap.size 69 2 v r.1.1.length (r.1.1.flatMap cSh) ∧ RowKit.Below w.heap.size w w'

theorem GivesD.nil {w w' : World} {m : Int} (h : RowKit.Below w.heap.size w w') : GivesD w (([], 0), m) (.returned (.tuple #[.slice none 0 0, .int .i64 0, .int .i64 m])) w' :=
  ⟨_, rfl, ⟨by simp, .inl ⟨rfl, rfl⟩⟩, h⟩

theorem grown_other {w w1 : World} {b B : Nat} {t : TypeId} {cs : Array Value} (h : Blk w B cs t) (hg : w.grownBy w1 (some b)) (hne : B ≠ b) : Blk w1 B cs t := h.kept hg (by simpa using hne)

set_option maxRecDepth 100000 in
set_option maxHeartbeats 6400000 in
theorem divide_any (pence : Int) (a : Option Addr) (n cap : Nat) (xs : List Title) (w : World) (hn : n ≤ 1000) (hL : Lst w 3 cT a n cap xs) :
    Calls Tryz.prog 28 #[.int .i64 pence, .slice a n cap] w (GivesD w (divideOf pence xs)) := by
  obtain ⟨r, hr⟩ : ∃ r, r = divideOf pence xs := ⟨_, rfl⟩
  rw [← hr]
  unfold divideOf at hr
  have Hr := Lib.hid hr; clear hr
  have Hlen := Lib.hid hL.len
  have hm : cap ≤ 9223372036854775807 := by have := hL.max; unfold maxLen at this; omega
  have hle := hL.le
  have hmm := @run_makeMap Tryz.prog
  have hin := fun p W => in6_any p 0 40 W
  obtain ⟨i0, hi0, hz0, hz1, hz2⟩ := info_parts infoF
  go_enter Tryz.func28, Tryz.ntmps28
  go_wp2_with (fail)
  obtain ⟨b, hb⟩ : ∃ b, b = w.heap.size := ⟨_, rfl⟩
  rw [← hb]
  have hbw : w.heap.size ≤ b := by omega
  have Hb := Lib.hid hb; clear hb
  go_loopw [8, 19] (fun ov i wr => ∃ k : Nat, k ≤ n ∧ i = .int .i64 k ∧ OwnSt b k (fun q => decide (q ∈ (xs.take k).map Title.party)) wr ∧ wr.ownsRow (b + 1) 24 2 ov k (((xs.take k).map Title.share).flatMap cF) ∧ Hid (titOk (xs.take k) = true) ∧ RowKit.Below w.heap.size w wr ∧ b < wr.heap.size) (fun _ i _ => n - (intOf i).toNat)
  case atStart =>
    refine ⟨0, Nat.zero_le _, rfl, ?_, ⟨by simp, .inl ⟨rfl, rfl⟩⟩, (by simp [titOk] : titOk (xs.take 0) = true), (Below.refl _ w).alloc (Nat.le_refl _) _, by rw [Hb.out]; simp⟩
    rw [Hb.out]
    exact OwnSt.made w
  case round =>
    clear hmm
    obtain ⟨k, hk, rfl, hst, hown, Ht, hB, hbl⟩ := hrel
    by_cases hlt : k < n
    · obtain ⟨x, hx⟩ : ∃ x, xs[k]? = some x := ⟨xs[k]'(by rw [Hlen.out]; exact hlt), by simp⟩
      obtain ⟨bb, off, rfl, hbb, hrg⟩ := (hL.below hB).at_ k x hx
      have htk : xs.take (k + 1) = xs.take k ++ [x] := by
        obtain ⟨h1, h2⟩ := List.getElem?_eq_some_iff.1 hx
        rw [List.take_succ_eq_append_getElem h1, h2]
      have htn : titOk (xs.take (k + 1)) = (inn x.party 0 40 && !decide (x.party ∈ (xs.take k).map Title.party)) := by
        rw [htk, titOk_snoc, Ht.out, Bool.true_and]
      have hbad : titOk (xs.take (k + 1)) = false → r = (([], 0), 1) := fun h => by
        rw [Hr.out, if_neg]
        intro e
        rw [titOk_prefix (k + 1) e] at h; cases h
      have Hbad := Lib.hid hbad; clear hbad
      have Htk := Lib.hid htk; clear htk
      have Htn := Lib.hid htn; clear htn
      have Hx := Lib.hid hx; clear hx
      have hc := fun W => hin x.party W
      have k4 : Blk (wr.alloc (.cells #[.int .i64 x.party, .int .i64 x.share.num, .int .i64 x.share.den] 71)) wr.heap.size #[.int .i64 x.party, .int .i64 x.share.num, .int .i64 x.share.den] 71 := Blk.new _ _ _
      have hst4 := hst.alloc (.cells #[.int .i64 x.party, .int .i64 x.share.num, .int .i64 x.share.den] 71)
      have hown4 := hown.alloc (.cells #[.int .i64 x.party, .int .i64 x.share.num, .int .i64 x.share.den] 71)
      have hB4 := hB.alloc hB.size (.cells #[.int .i64 x.party, .int .i64 x.share.num, .int .i64 x.share.den] 71)
      cases hin1 : inn x.party 0 40 with
      | false =>
        rw [hin1] at hc
        have hr := Hbad.out (by rw [Htn.out, hin1, Bool.false_and])
        have Hr2 := Lib.hid hr; clear hr hin1
        go_wp2_with (first
          | (refine wpList_load_mid rfl 71 _ rfl bb (off + k * 3) rfl (cT x) _ hrg Tryz.underlying71 rfl (by kernel_rfl) ?_)
          | (go_at_call 66; refine (hc _).mono ?_; rintro e w3 ⟨rfl, rfl⟩)
          | fail)
        go_ret3
        rw [Hr2.out]
        exact GivesD.nil hB4
      | true =>
        rw [hin1] at hc
        have hpb := (inn_iff _ _ _).1 hin1
        obtain ⟨hp0, hp1⟩ := hpb
        have Hin1 := Lib.hid hin1; clear hin1
        have hlk := hst4.look x.party (WalkArith.wf_i64 (by omega))
        obtain ⟨sn, hsn⟩ : ∃ sn, sn = decide (x.party ∈ (xs.take k).map Title.party) := ⟨_, rfl⟩
        rw [← hsn] at hlk Htn
        rw [Hin1.out, Bool.true_and] at Htn
        cases sn with
        | true =>
          have hr := Hbad.out (by rw [Htn.out]; rfl)
          have Hr2 := Lib.hid hr; clear hr hsn
          go_wp2_with (first
            | (refine wpList_load_mid rfl 71 _ rfl bb (off + k * 3) rfl (cT x) _ hrg Tryz.underlying71 rfl (by kernel_rfl) ?_)
            | (go_at_call 66; refine (hc _).mono ?_; rintro e w3 ⟨rfl, rfl⟩)
            | fail)
          go_ret3
          rw [Hr2.out]
          exact GivesD.nil hB4
        | false =>
          have Hsn := Lib.hid hsn; clear hsn
          obtain ⟨D, hD1, hD2⟩ := hst4
          have hkey := key_small x.party ⟨hp0, hp1⟩
          have HD2 := Lib.hid hD2; clear hD2
          go_wp2_with (first
            | (refine wpList_load_mid rfl 71 _ rfl bb (off + k * 3) rfl (cT x) _ hrg Tryz.underlying71 rfl (by kernel_rfl) ?_)
            | (go_at_call 66; refine (hc _).mono ?_; rintro e w3 ⟨rfl, rfl⟩)
            | (at_mapUpdate; refine wpList_mapUpdate_own _ rfl _ _ _ 96 rfl 3 4 lawI Tryz.underlying96 _ b k _ rfl hD1 (by unfold maxLen; omega) _ _ _ rfl rfl hkey _ [] (plainElem_bool Tryz.underlying4 true) ?_; intro w1 hown1 hgrow1; have kx := grown_other k4 hgrow1 (by omega); have cx := kx.cell; have hw1 := hgrow1.size; have hB5 := below_of_grown hB4 (Nat.le_refl _) hgrow1 (fun q e => by cases e; omega); have hown5 := hown4.kept hgrow1 (.inr (fun e => by have := (hown4.lt b e).1; omega)))
            | (at_builtin; refine wpList_append_lies _ rfl _ _ _ rfl (b + 1) 24 i0 _ 2 16 Tryz.underlying97 hi0 hz0 hz1 hz2 rfl (by omega) _ k (((xs.take k).map Title.share).flatMap cF) rfl (hown5.alloc _) ⟨w1.heap.size, 0, none⟩ 1 1 (cF x.share) rfl rfl (World.news_of_block (cs := (cF x.share).toArray) (t := 24) (fr := (0, 0)) (heap_alloc_new w1 _)) (by simp [Value.oneCell']) (by omega) (by unfold maxLen; omega) (by omega) (by simp at hw1 ⊢; omega) _ rfl ?_; intro g cap1 wn hownn hgrown hat hltn)
            | fail)
          have hs5 : w.heap.size ≤ w1.heap.size := hB5.size
          go_roundw
          case rel =>
            have hu8 : ∀ q, u8.ownBlock = some q → b + 1 ≤ q := fun q e => (hown5.lt q e).1
            refine ⟨k + 1, by omega, by go_num, ?_, ?_, ?_, ?_, ?_⟩
            · refine ⟨_, (hown1.alloc _).kept hgrown (fun e => by have := hu8 b e.symm; omega), (HD2.out.put x.party).congr (fun q => ?_)⟩
              rw [Htk.out, List.map_append, Bool.eq_iff_iff]
              simp only [Bool.or_eq_true, decide_eq_true_eq, List.mem_append, List.map_cons, List.map_nil, List.mem_singleton]
              exact Or.comm
            · rw [Htk.out, List.map_append, List.flatMap_append]
              simpa using hownn
            · show _ = _
              rw [Htn.out]; rfl
            · exact below_of_grown (hB5.alloc hs5 _) (Nat.le_refl _) hgrown (fun q e => by have := hu8 q e; omega)
            · have := hgrown.size
              simp at this hw1; omega
          case measure => simp [intOf]; omega
    · obtain rfl : k = n := by omega
      have htk : xs.take k = xs := List.take_of_length_le (by rw [Hlen.out]; exact Nat.le_refl _)
      rw [htk] at hown
      have ht := Ht.out
      rw [htk] at ht
      have hr := Hr.out
      rw [if_pos ht] at hr
      clear htk Ht Hr hst hin ht hlt
      obtain ⟨af, capf, rfl, _, hLf⟩ := Lst.of_owns (k := 2) (enc := cF) (fun _ => rfl) (by omega) hown (by rw [List.length_map, Hlen.out])
      have hs := split_any pence af k capf (xs.map Title.share) wr hLf
      obtain ⟨sp, hsp⟩ : ∃ sp, sp = splitOf pence (xs.map Title.share) := ⟨_, rfl⟩
      rw [← hsp] at hs hr
      have Hr1 := Lib.hid hr
      have Hsp := Lib.hid hsp
      clear hr hsp
      go_wp2_with (fail)
      refine hs.mono ?_
      clear hs hown hLf
      have hr := Hr1.out
      have hsp := Hsp.out
      clear Hr1 Hsp
      rintro e w3 ⟨v3, rfl, hown3, hB3⟩
      have hB03 : RowKit.Below w.heap.size w w3 := hB.trans (hB3.mono hB.size)
      by_cases hz : sp.2 = 0
      · rw [if_pos hz] at hr
        obtain ⟨hl1, hl2, hp0, hp1, hvb⟩ := splitOf_bd (hsp ▸ hz)
        rw [← hsp] at hl1 hvb
        rw [List.length_map, Hlen.out] at hl1 hl2
        obtain ⟨parts, hparts⟩ : ∃ parts, parts = sp.1 := ⟨_, rfl⟩
        rw [← hparts] at hl1 hvb hown3 hr
        rw [hl1] at hown3
        obtain ⟨ap, capp, rfl, _, hLp⟩ := Lst.of_owns (k := 1) (enc := cI) (fun _ => rfl) (by omega) hown3 hl1
        have g0 : (sp.2 != 0) = false := by rw [hz]; rfl
        obtain ⟨zs, hzs⟩ : ∃ zs, zs = List.zipWith Share.mk (xs.map Title.party) parts := ⟨_, rfl⟩
        rw [← hzs] at hr
        have hzl : zs.length = k := by rw [hzs, List.length_zipWith, List.length_map, Hlen.out, hl1]; exact Nat.min_self k
        have hzb := sumI_bound hvb
        obtain ⟨e2, he2⟩ : ∃ e2, e2 = sp.2 := ⟨_, rfl⟩
        rw [← he2] at g0 hz ⊢
        subst hz
        have Hr3 := Lib.hid hr
        have Hl1 := Lib.hid hl1
        have Hzs := Lib.hid hzs
        have Hzl := Lib.hid hzl
        have Hvb := Lib.hid hvb
        clear hr hl1 hzs hzl hvb hparts he2 hsp hown3 hzb hB hB3 hi0 hz0 hz1 hz2
        have hmp : capp ≤ 9223372036854775807 := by have := hLp.max; unfold maxLen at this; omega
        have hlp := hLp.le
        obtain ⟨i1, hj0, hj1, hj2, hj3⟩ := info_parts infoSh
        go_wp2_with (fail)
        go_loopw [0, 13, 53] (fun pn ov i wr => ∃ j : Nat, j ≤ k ∧ i = .int .i64 j ∧ pn = .int .i64 (pence - sumI (parts.take j)) ∧ wr.ownsRow w3.heap.size 69 2 ov j ((zs.take j).flatMap cSh) ∧ RowKit.Below w3.heap.size w3 wr) (fun _ _ i _ => k - (intOf i).toNat)
        case atStart => exact ⟨0, Nat.zero_le _, rfl, by simp [sumI], ⟨by simp, .inl ⟨rfl, rfl⟩⟩, Below.refl _ _⟩
        case round =>
          obtain ⟨j, hj, rfl, rfl, hown, hBr⟩ := hrel
          by_cases hlt : j < k
          · obtain ⟨x, hx⟩ : ∃ x, xs[j]? = some x := ⟨xs[j]'(by rw [Hlen.out]; exact hlt), by simp⟩
            obtain ⟨p, hp⟩ : ∃ p, parts[j]? = some p := ⟨parts[j]'(by rw [Hl1.out]; exact hlt), by simp⟩
            obtain ⟨bb, off, rfl, hbb, hrg⟩ := (hL.below (hB03.trans (hBr.mono hB03.size))).at_ j x hx
            obtain ⟨bp, offp, rfl, hbp, hrp⟩ := (hLp.below hBr).at_ j p hp
            have cx := hrg 0 _ rfl
            have cp := hrp 0 _ rfl
            simp only [Nat.mul_one, Nat.add_zero] at cx cp
            have hpb := Hvb.out p (List.mem_iff_getElem?.2 ⟨j, hp⟩)
            obtain ⟨hpb0, hpb1⟩ := hpb
            have htp : sumI (parts.take (j + 1)) = sumI (parts.take j) + p := by
              obtain ⟨h1, h2⟩ := List.getElem?_eq_some_iff.1 hp
              rw [List.take_succ_eq_append_getElem h1, h2, sumI_append]; simp [sumI]
            have htz : zs.take (j + 1) = zs.take j ++ [Share.mk x.party p] := by
              have hz : zs[j]? = some (Share.mk x.party p) := by rw [Hzs.out, List.getElem?_zipWith, List.getElem?_map, hx, hp]; rfl
              obtain ⟨h1, h2⟩ := List.getElem?_eq_some_iff.1 hz
              rw [List.take_succ_eq_append_getElem h1, h2]
            have hsb := sumI_bound (l := parts.take j) (fun v hv => Hvb.out v (List.mem_of_mem_take hv))
            have hsl := List.length_take_le j parts
            obtain ⟨sj, hsj⟩ : ∃ sj, sj = sumI (parts.take j) := ⟨_, rfl⟩
            rw [← hsj] at htp hsb ⊢
            obtain ⟨hsb0, hsb1⟩ := hsb
            have hsb2 : sj ≤ 41000001681 := by omega
            have hw1 : IntKind.i64.wrap (pence - sj - p) = pence - sj - p := by rw [IntKind.wrap_i64]; omega
            have Htp := Lib.hid htp; clear htp
            have Htz := Lib.hid htz; clear htz
            have Hsj := Lib.hid hsj; clear hsj hsb1 hsl
            have Hx := Lib.hid hx; clear hx
            have Hp := Lib.hid hp; clear hp hrg hrp
            go_wp2_with (first
              | (at_builtin; refine wpList_append_lies _ rfl _ _ _ rfl w3.heap.size 69 i1 _ 2 16 Tryz.underlying45 hj0 hj1 hj2 hj3 rfl (by omega) _ j ((zs.take j).flatMap cSh) rfl (hown.alloc _) ⟨wr.heap.size, 0, none⟩ 1 1 [.int .i64 x.party, .int .i64 p] rfl rfl (World.news_of_block (cs := #[.int .i64 x.party, .int .i64 p]) (t := 69) (fr := (0, 0)) (heap_alloc_new wr _)) (by simp [Value.oneCell']) (by omega) (by unfold maxLen; omega) (by omega) (by have := hBr.size; simp; omega) _ rfl ?_; intro g cap1 wn hownn hgrown hat hltn)
              | fail)
            go_roundw
            case rel =>
              refine ⟨j + 1, by omega, by go_num, by rw [Htp.out]; congr 1; omega, ?_, ?_⟩
              · rw [Htz.out, List.flatMap_append]
                exact hownn
              · exact below_of_grown (hBr.alloc hBr.size _) (Nat.le_refl _) hgrown (fun q e => (hown.lt q e).1)
            case measure => simp [intOf]; omega
          · obtain rfl : j = k := by omega
            rw [List.take_of_length_le (by rw [Hzl.out]; exact Nat.le_refl _)] at hown
            rw [List.take_of_length_le (by rw [Hl1.out]; exact Nat.le_refl _)]
            go_wp2_with (fail)
            go_ret3
            rw [Hr3.out]
            refine ⟨_, rfl, ?_, hB03.trans (hBr.mono hB03.size)⟩
            have h := ownsRow_base_a hown hB03.size
            dsimp only
            rw [Hzl.out]; exact h
      · rw [if_neg hz] at hr
        have g0 : (sp.2 != 0) = true := by simpa using hz
        have Hz := Lib.hid hz; clear hz
        have Hr3 := Lib.hid hr; clear hr hsp hown3
        go_wp2_with (fail)
        go_ret3
        rw [Hr3.out]
        exact GivesD.nil hB03

end Go.Proofs.YtollegoajlfdiaaGreat
