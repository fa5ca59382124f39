import Derived.Test.YtollegoajlfdiaaGreatPart10
import Derived.Test.YtollegoajlfdiaaGreatPart06
import Derived.Test.YtollegoajlfdiaaGreatPart04
import Derived.Test.YtollegoajlfdiaaGreatPart01
import Derived.RangeFuncNested
import Derived.RangeFuncBound
import Derived.RangeFuncCalls
import Derived.RangeFuncLeaves
import Derived.RangeFuncBox
import Derived.Shelf.Abstract
import Derived.Shelf.RegionOpen
import Derived.OwnWalkIn
import Derived.TacticsInMore
import Derived.LoopNIn
import Derived.LoopIn
import Derived.Lib.QuietBelowIn
import Derived.StillTailTactics
import Derived.BigQuiet
import Derived.Test.YtollegoajlfdiaaGreatPart05
/-
  Walks: the pot: takes, gives.
-/
namespace Go.Proofs.YtollegoajlfdiaaGreat
open Go.RowKit Lg Go.Sort Go.Shelf

set_option maxRecDepth 100000 in
set_option maxHeartbeats 1600000 in
theorem takes_any (B : Nat) (price cart store find rest n m : Int) (r : Rate) (s : Sale) (fv lv : Value) (W : World) (hB : Blk W B #[.int .i64 price, .int .i64 cart, .int .i64 store, .int .i64 find, .int .i64 rest, .slice none 0 0, .int .i64 r.id, .int .i64 r.known, .int .i64 r.from_, .string r.goods, .int .i64 r.finder.num, .int .i64 r.finder.den, .int .i64 r.cart, .int .i64 r.store, .int .i64 r.of_, .int .i64 s.id, .int .i64 s.known, .int .i64 s.hour, .int .i64 s.parcel, .int .i64 s.price, .int .i64 s.carter, .int .i64 s.keeper, .int .i64 s.since, .int .i64 s.of_, fv, lv] 104)
    (hn : 0 ≤ n ∧ n ≤ 4000000000000000000) (hr : 0 ≤ rest ∧ rest ≤ 4000000000000000000) (hm : m = min n rest) :
    Calls Tryz.prog 121 #[.pointer (some ⟨B, 0, none⟩), .int .i64 n] W fun e w' => e = .returned (.int .i64 m) ∧ w' = W.setCell ⟨B, 4, none⟩ (.int .i64 (rest - m)) := by
  have c := hB.cell
  have f := hB.frozen
  obtain ⟨hn1, hn2⟩ := hn
  obtain ⟨hr1, hr2⟩ := hr
  have Hm := Lib.hid hm; clear hm
  go_enter Tryz.func121, Tryz.ntmps121
  go_wp2
  go_ret
  rw [Hm.out]
  exact ⟨rfl, rfl⟩

theorem cSh_one (x : Share) : ∀ u ∈ cSh x, u.oneCell' = true := by simp [cSh, Value.oneCell']

set_option maxRecDepth 100000 in
set_option maxHeartbeats 1600000 in
theorem gives_any (B base : Nat) (price cart store find rest party pence : Int) (r : Rate) (s : Sale) (fv lv : Value) (shs : List Share) (W : World) (hB : Blk W B #[.int .i64 price, .int .i64 cart, .int .i64 store, .int .i64 find, .int .i64 rest, .slice none 0 0, .int .i64 r.id, .int .i64 r.known, .int .i64 r.from_, .string r.goods, .int .i64 r.finder.num, .int .i64 r.finder.den, .int .i64 r.cart, .int .i64 r.store, .int .i64 r.of_, .int .i64 s.id, .int .i64 s.known, .int .i64 s.hour, .int .i64 s.parcel, .int .i64 s.price, .int .i64 s.carter, .int .i64 s.keeper, .int .i64 s.since, .int .i64 s.of_, fv, lv] 104)
    (ho : W.ownsRow base 69 2 lv shs.length (shs.flatMap cSh)) (hlt : B < base) (hbs : base ≤ W.heap.size) (hn : shs.length ≤ 1000) :
    Calls Tryz.prog 122 #[.pointer (some ⟨B, 0, none⟩), .int .i64 party, .int .i64 pence] W fun e w' => e = .returned (.tuple #[]) ∧ ∃ lv', Blk w' B #[.int .i64 price, .int .i64 cart, .int .i64 store, .int .i64 find, .int .i64 rest, .slice none 0 0, .int .i64 r.id, .int .i64 r.known, .int .i64 r.from_, .string r.goods, .int .i64 r.finder.num, .int .i64 r.finder.den, .int .i64 r.cart, .int .i64 r.store, .int .i64 r.of_, .int .i64 s.id, .int .i64 s.known, .int .i64 s.hour, .int .i64 s.parcel, .int .i64 s.price, .int .i64 s.carter, .int .i64 s.keeper, .int .i64 s.since, .int .i64 s.of_, fv, lv'] 104 ∧
      w'.ownsRow base 69 2 lv' (shs ++ [Share.mk party pence]).length ((shs ++ [Share.mk party pence]).flatMap cSh) ∧ RowKit.Below B W w' ∧
      (∀ k, k < W.heap.size → k ≠ B → some k ≠ lv.ownBlock → w'.heap[k]? = W.heap[k]?) ∧ (lv'.ownBlock = lv.ownBlock ∨ ∃ g, lv'.ownBlock = some g ∧ W.heap.size ≤ g) := by
  have c := hB.cell
  have f := hB.frozen
  have hl := hB.lt
  obtain ⟨i0, hi0, hz0, hz1, hz2⟩ := info_parts infoSh
  go_enter Tryz.func122, Tryz.ntmps122
  go_wp2_with (at_builtin; refine wpList_append_lies _ rfl _ _ _ rfl base 69 i0 _ 2 16 Tryz.underlying45 hi0 hz0 hz1 hz2 rfl (by omega) lv shs.length (shs.flatMap cSh) rfl (ho.alloc _) ⟨W.heap.size, 0, none⟩ 1 1 [.int .i64 party, .int .i64 pence] rfl rfl (World.news_of_block (cs := #[.int .i64 party, .int .i64 pence]) (t := 69) (fr := (0, 0)) (heap_alloc_new W _)) (by simp [Value.oneCell']) (by omega) (by unfold maxLen; omega) (by omega) (by simp; omega) _ rfl ?_; intro g cap1 w1 hown hgrow hat hlt1; have hk := (hB.alloc _).kept hgrow (fun e => Nat.lt_irrefl _ (Nat.lt_of_lt_of_le hlt (own_ge ho _ e.symm))); have c1 := hk.cell; have f1 := hk.frozen)
  go_end0
  have e25 : (#[.int .i64 price, .int .i64 cart, .int .i64 store, .int .i64 find, .int .i64 rest, .slice none 0 0, .int .i64 r.id, .int .i64 r.known, .int .i64 r.from_, .string r.goods, .int .i64 r.finder.num, .int .i64 r.finder.den, .int .i64 r.cart, .int .i64 r.store, .int .i64 r.of_, .int .i64 s.id, .int .i64 s.known, .int .i64 s.hour, .int .i64 s.parcel, .int .i64 s.price, .int .i64 s.carter, .int .i64 s.keeper, .int .i64 s.since, .int .i64 s.of_, fv, lv]).setIfInBounds 25 (.slice (some ⟨g, 0, none⟩) (shs.length + 1) cap1) = #[.int .i64 price, .int .i64 cart, .int .i64 store, .int .i64 find, .int .i64 rest, .slice none 0 0, .int .i64 r.id, .int .i64 r.known, .int .i64 r.from_, .string r.goods, .int .i64 r.finder.num, .int .i64 r.finder.den, .int .i64 r.cart, .int .i64 r.store, .int .i64 r.of_, .int .i64 s.id, .int .i64 s.known, .int .i64 s.hour, .int .i64 s.parcel, .int .i64 s.price, .int .i64 s.carter, .int .i64 s.keeper, .int .i64 s.since, .int .i64 s.of_, fv, .slice (some ⟨g, 0, none⟩) (shs.length + 1) cap1] := by kernel_rfl
  refine ⟨rfl, .slice (some ⟨g, 0, none⟩) (shs.length + 1) cap1, ?_, ?_, ?_, ?_, ?_⟩
  · rw [← e25]; exact hk.setCell 25 _
  · rw [List.length_append, List.flatMap_append, List.flatMap_singleton]
    refine World.ownsRow.kept hown (grownBy_setCells w1 B 25 [.slice (some ⟨g, 0, none⟩) (shs.length + 1) cap1]) (.inr ?_)
    have := (hown.lt g rfl).1
    simp [Value.ownBlock]; omega
  · exact (below_of_grown ((Below.refl B W).alloc (Nat.le_of_lt hl) _) (Nat.le_of_lt hl) hgrow (fun r e => Nat.le_of_lt (Nat.lt_of_lt_of_le hlt (own_ge ho r e)))).setCell (p := ⟨B, 25, none⟩) (Nat.le_refl _) _
  · intro k hk1 hk2 hk3
    rw [Below.heap_setCell w1 ⟨B, 25, none⟩ _ k hk2, hgrow.block k (by simp; omega) hk3]
    exact Below.heap_alloc _ _ _ hk1
  · rcases hat with h | h
    · exact .inl h.symm
    · exact .inr ⟨g, rfl, by rw [h]; simp⟩

end Go.Proofs.YtollegoajlfdiaaGreat

/-
  The iterator over what counts: its contract.
-/
namespace Go.Proofs.YtollegoajlfdiaaGreat
open Go.RowKit Lg Go.Sort Go.Shelf

attribute [local go_sem] Oper.semAt_some

theorem any_head (l : List Rate) (h : Head) (known : Int) : l.any (fun v => voids h v.head known) = (l.map Rate.head).any (fun v => voids h v known) := by
  rw [List.any_map]; rfl

theorem grownBy_of_below {w w' : World} (h : Below w.heap.size w w') : w.grownBy w' none :=
  ⟨h.os, h.tape, h.output, h.size, fun k hk _ => h.block k hk⟩

/-- The blocks of S lie as they lay. -/
def KpOn (S : Nat → Prop) (W W' : World) : Prop := W.heap.size ≤ W'.heap.size ∧ ∀ k, S k → W'.heap[k]? = W.heap[k]?
theorem KpOn.refl (S : Nat → Prop) (W : World) : KpOn S W W := ⟨Nat.le_refl _, fun _ _ => rfl⟩
theorem KpOn.trans {S : Nat → Prop} {a b c : World} (h : KpOn S a b) (k : KpOn S b c) : KpOn S a c := ⟨Nat.le_trans h.1 k.1, fun i hi => (k.2 i hi).trans (h.2 i hi)⟩
theorem KpOn.of_below {S : Nat → Prop} {B : Nat} {a b : World} (h : Below B a b) (hS : ∀ k, S k → k < B) : KpOn S a b := ⟨h.size, fun k hk => h.block k (hS k hk)⟩
theorem KpOn.cell {S : Nat → Prop} {W W' : World} (h : KpOn S W W') {p : Addr} (hp : S p.block) : W'.cell? p = W.cell? p := World.cell?_of_block (w := W) (h.2 p.block hp)
theorem rangeAt_kp {S : Nat → Prop} {w w' : World} (h : KpOn S w w') {b o : Nat} {cs : List Value} (hb : S b) (hr : w.rangeAt b o cs) : w'.rangeAt b o cs :=
  fun j v hv => (h.cell (p := ⟨b, o + j, none⟩) hb).trans (hr j v hv)

theorem abides_below {β : Type} {B : Nat} {J : β → World → Prop} (h : AbidesFrom B J) {s : β} {W W' : World} (hJ : J s W) (hb : Below W.heap.size W W') : J s W' :=
  h s W W' none hJ (grownBy_of_below hb) (fun r e => by cases e)

set_option maxRecDepth 100000 in
set_option maxHeartbeats 1000000 in
theorem countingR1 (n : Nat) (hn : 1 ≤ n) (l Bl Bk : Nat) (S : Nat → Prop) (a : Option Addr) (m cap : Nat) (xs : List Rate) (known : Int) (J Jx : List Rate → World → Prop)
    (W : World) (hJ : AbidesFrom W.heap.size J) (hBl : W.cell? ⟨Bl, 0, none⟩ = some (.slice a m cap)) (hBk : W.cell? ⟨Bk, 0, none⟩ = some (.int .i64 known)) (hS1 : S Bl) (hS2 : S Bk) (hSlt : ∀ k, S k → k < W.heap.size)
    (hL : Lst W 9 cR a m cap xs) (hLb : ∀ b off, xs ≠ [] → a = some ⟨b, off, none⟩ → S b)
    (hY : ∀ pre x W1, J pre W1 → pre.length < xs.length → YieldAt Fence.wide (n - 1) Tryz.prog l #[aR x] W1 fun e W' =>
      (e = .returned (.bool true) ∧ J (pre ++ [x]) W' ∧ KpOn S W1 W') ∨ (e = .returned (.bool false) ∧ Jx (pre ++ [x]) W'))
    (h0 : J [] W) :
    CallsIn Fence.wide n Tryz.prog 133 #[.func (.yield l) #[] #[], .pointer (some ⟨Bl, 0, none⟩), .pointer (some ⟨Bk, 0, none⟩)] W fun e W' => (∃ v, e = .returned v) ∧
      ((∃ ys, ys = cntR xs known ∧ J ys W') ∨ (∃ pre, pre <+: cntR xs known ∧ Jx pre W')) := by
  have hm : cap ≤ 9223372036854775807 := by have := hL.max; unfold maxLen at this; omega
  have hle := hL.le
  have hlen := Lib.hid hL.len
  have hw115 : Fence.wide.fn 115 := trivial
  have hw116 : Fence.wide.fn 116 := trivial
  refine callsIn_of_wp Tryz.func133 rfl trivial ?_ rfl
  simp only [Tryz.ntmps133, List.size_toArray, List.length_cons, List.length_nil, Nat.reduceAdd, Nat.reduceSub, Array.replicate_succ, Array.replicate_zero, List.push_toArray, List.append_toArray, List.nil_append, List.cons_append]
  gi_wp2
  gi_loopw [10] (fun i wr => ∃ k : Nat, k ≤ m ∧ i = .int .i64 k ∧ KpOn S W wr ∧ J ((xs.take k).filter fun x => counts (xs.map Rate.head) known x.head) wr) (fun i _ => m - (intOf i).toNat)
  case atStart => exact ⟨0, Nat.zero_le _, rfl, KpOn.refl _ _, h0⟩
  case round =>
    obtain ⟨k, hk, rfl, hB, hJk⟩ := hrel
    have hsz := hB.1
    have hlt1 := hSlt _ hS1
    have hlt2 := hSlt _ hS2
    by_cases hlt : k < m
    · obtain ⟨x, hx⟩ : ∃ x, xs[k]? = some x := ⟨xs[k]'(by rw [hlen.out]; exact hlt), by simp⟩
      obtain ⟨b, off, rfl, hb, hr⟩ := hL.at_ k x hx
      have hne : xs ≠ [] := fun h => by rw [h] at hx; simp at hx
      have hr' := rangeAt_kp hB (hLb b off hne rfl) hr
      have hX := Lib.hid hx; clear hx
      have HJ := Lib.hid hJk; clear hJk
      gi_wp2_with (refine wpListIn_load_mid rfl 26 _ rfl b (off + k * 9) rfl (cR x) _ hr' Tryz.underlying26 rfl (by kernel_rfl) ?_)
      refine (callsIn_wide.2 (headR_any x _)).mono ?_
      rintro e w2 ⟨rfl, hB2⟩
      obtain ⟨A1, hA1⟩ : ∃ A1, A1 = wr.alloc (.cells #[.int .i64 x.id, .int .i64 x.known, .int .i64 x.from_, .string x.goods, .int .i64 x.finder.num, .int .i64 x.finder.den, .int .i64 x.cart, .int .i64 x.store, .int .i64 x.of_] 26) := ⟨_, rfl⟩
      rw [← hA1] at hB2
      have hBA : Below wr.heap.size wr A1 := hA1 ▸ (Below.refl _ wr).alloc (Nat.le_refl _) _
      have hszA : A1.heap.size = wr.heap.size + 1 := by rw [hA1]; simp
      have hb2 : Below wr.heap.size wr w2 := hBA.trans (hB2.mono hBA.size)
      have hsz2 : wr.heap.size + 1 ≤ w2.heap.size := by have := hB2.size; omega
      have hbox : ∀ j, w2.cell? ⟨wr.heap.size, j, none⟩ = #[Value.int .i64 x.id, .int .i64 x.known, .int .i64 x.from_, .string x.goods, .int .i64 x.finder.num, .int .i64 x.finder.den, .int .i64 x.cart, .int .i64 x.store, .int .i64 x.of_][j]? := fun j => by
        rw [hB2.cell (p := ⟨wr.heap.size, j, none⟩) (by rw [hszA]; exact Nat.lt_succ_self _), hA1]
        exact cell_of_row _ _ _ _ _ _ (heap_alloc_new wr _)
      clear hA1
      have hBl2 : w2.cell? ⟨Bl, 0, none⟩ = some (.slice (some ⟨b, off, none⟩) m cap) := ((hb2.cell (p := ⟨Bl, 0, none⟩) (show Bl < wr.heap.size by omega)).trans (hB.cell (p := ⟨Bl, 0, none⟩) hS1)).trans hBl
      have hBk2 : w2.cell? ⟨Bk, 0, none⟩ = some (.int .i64 known) := ((hb2.cell (p := ⟨Bk, 0, none⟩) (show Bk < wr.heap.size by omega)).trans (hB.cell (p := ⟨Bk, 0, none⟩) hS2)).trans hBk
      have hBl3 := cell_allocs hBl2
      have hBk3 := cell_allocs hBk2
      have hmf : ∀ (fn : Fn) (first cap : Array Value) (w : World), (Instr.makeFunc fn first cap).run Tryz.prog w = .ok (.func fn first cap) w := fun _ _ _ _ => rfl
      gi_wp2
      have eg : ∀ args w, (callFunc 134 args).run Tryz.prog w = .ok (.enter 134 args) w := enters_of Tryz.func134 (by kernel_rfl) rfl
      obtain ⟨A3, hA3⟩ : ∃ A3, A3 = w2.alloc (.cells #[.int .i64 x.head.id, .int .i64 x.head.known, .int .i64 x.head.of_] 143) := ⟨_, rfl⟩
      have hBA3 : Below w2.heap.size w2 A3 := hA3 ▸ (Below.refl _ w2).alloc (Nat.le_refl _) _
      have hszA3 : A3.heap.size = w2.heap.size + 1 := by rw [hA3]; simp
      have hent : ∀ j, A3.cell? ⟨w2.heap.size, j, none⟩ = #[Value.int .i64 x.head.id, .int .i64 x.head.known, .int .i64 x.head.of_][j]? := fun j => by
        rw [hA3]; exact cell_of_row _ _ _ _ _ _ (heap_alloc_new w2 _)
      have hB23 : Below wr.heap.size wr A3 := hb2.trans (hBA3.mono hb2.size)
      have hL3 : Lst A3 9 cR (some ⟨b, off, none⟩) m cap xs := ⟨hL.len, hL.le, hL.max, fun i y hy => by
        obtain ⟨b', off', ha, hlt', hr⟩ := hL.at_ i y hy
        cases ha
        exact ⟨b, off, rfl, by have := hB23.size; omega, rangeAt_below hB23 (by omega) (rangeAt_kp hB (hLb _ _ hne rfl) hr)⟩⟩
      rw [← hA3]; clear hA3
      refine (callsIn_wide.2 (contR_any (fun v => voids x.head v.head known) 134 #[.pointer (some ⟨w2.heap.size, 0, none⟩), .pointer (some ⟨Bk, 0, none⟩)] eg (some ⟨b, off, none⟩) m cap xs A3 hL3 (fun W' v hW' => voidR_any v x.head known w2.heap.size Bk W' ?_ ?_))).mono ?_
      · rw [hW'.cell (p := ⟨w2.heap.size, 0, none⟩) (by rw [hszA3]; exact Nat.lt_succ_self _), hent]; rfl
      · rw [hW'.cell (p := ⟨Bk, 0, none⟩) (show Bk < _ by rw [hszA3]; omega), hBA3.cell (p := ⟨Bk, 0, none⟩) (show Bk < _ by omega)]; exact hBk2
      rintro e w4 ⟨rfl, hB4⟩
      have hb4 : Below wr.heap.size wr w4 := hB23.trans (hB4.mono hB23.size)
      have hent4 : ∀ j, w4.cell? ⟨w2.heap.size, j, none⟩ = #[Value.int .i64 x.head.id, .int .i64 x.head.known, .int .i64 x.head.of_][j]? := fun j => by
        rw [hB4.cell (p := ⟨w2.heap.size, j, none⟩) (by rw [hszA3]; exact Nat.lt_succ_self _)]; exact hent j
      have hbox4 : ∀ j, w4.cell? ⟨wr.heap.size, j, none⟩ = #[Value.int .i64 x.id, .int .i64 x.known, .int .i64 x.from_, .string x.goods, .int .i64 x.finder.num, .int .i64 x.finder.den, .int .i64 x.cart, .int .i64 x.store, .int .i64 x.of_][j]? := fun j => by
        rw [hB4.cell (p := ⟨wr.heap.size, j, none⟩) (show wr.heap.size < _ by omega), hBA3.cell (p := ⟨wr.heap.size, j, none⟩) (show wr.heap.size < _ by omega)]; exact hbox j
      have hBk4 : w4.cell? ⟨Bk, 0, none⟩ = some (.int .i64 known) := by
        rw [hB4.cell (p := ⟨Bk, 0, none⟩) (show Bk < _ by omega), hBA3.cell (p := ⟨Bk, 0, none⟩) (show Bk < _ by omega)]; exact hBk2
      have hJ4 := abides_below hJ HJ.out hb4
      have hcnt : counts (xs.map Rate.head) known x.head = (decide (x.head.of_ = 0) && decide (x.head.known ≤ known) && !(xs.any fun v => voids x.head v.head known)) := by
        rw [any_head]; rfl
      have Hcnt := Lib.hid hcnt; clear hcnt
      have hlp : ((xs.take k).filter fun x => counts (xs.map Rate.head) known x.head).length < xs.length := by
        have h1 := List.length_filter_le (fun x => counts (xs.map Rate.head) known x.head) (xs.take k)
        have h2 := List.length_take_le k xs
        rw [hlen.out]; omega
      clear hbox hent hBl hBk hBl2 hBk2 hBl3 hBk3 hB2 hb2 hBA hr hr' hBA3 hL3 eg hmf
      have htake : (xs.take (k + 1)).filter (fun x => counts (xs.map Rate.head) known x.head) = ((xs.take k).filter fun x => counts (xs.map Rate.head) known x.head) ++ (if counts (xs.map Rate.head) known x.head then [x] else []) := by
        obtain ⟨h1, h2⟩ := List.getElem?_eq_some_iff.1 hX.out
        rw [List.take_succ_eq_append_getElem h1, h2, List.filter_append, List.filter_cons, List.filter_nil]
      have Htake := Lib.hid htake; clear htake
      generalize (xs.any fun v => voids x.head v.head known) = vd at *
      have hgo : counts (xs.map Rate.head) known x.head = false → ∀ w5, Below wr.heap.size wr w5 → J ((xs.take (k + 1)).filter fun x => counts (xs.map Rate.head) known x.head) w5 := fun hf w5 hb => by
        rw [Htake.out, hf]; simpa using abides_below hJ HJ.out hb
      have hBn : KpOn S W w4 := hB.trans (KpOn.of_below hb4 (fun k hk => by have := hSlt k hk; omega))
      by_cases g1 : (x.head.of_ == 0) = true
      · by_cases g2 : x.head.known ≤ known
        · cases vd with
          | true =>
            have Hf : Hid (counts (xs.map Rate.head) known x.head = false) := Lib.hid (by rw [Hcnt.out]; simp)
            gi_wp2
            refine ⟨fun _ h => (by cases h), ?_⟩
            gi_wp2
            go_roundw
            case rel => exact ⟨k + 1, by omega, by go_num, hBn, hgo Hf.out _ hb4⟩
            case measure => simp [intOf]; omega
          | false =>
            have Hf : Hid (counts (xs.map Rate.head) known x.head = true) := Lib.hid (by rw [Hcnt.out]; simp at g1; simp [g1, g2])
            obtain ⟨fn, tmps, assign, body, hy, hR⟩ := hY _ x w4 hJ4 hlp
            have htk : (xs.take (k + 1)).filter (fun x => counts (xs.map Rate.head) known x.head) = ((xs.take k).filter fun x => counts (xs.map Rate.head) known x.head) ++ [x] := by rw [Htake.out, Hf.out]; rfl
            have Htk := Lib.hid htk; clear htk
            gi_wp2
            refine hR.mono ?_
            rintro e w5 (⟨rfl, hJ5, hk5⟩ | ⟨rfl, hJx5⟩)
            · gi_wp2
              go_roundw
              case rel => exact ⟨k + 1, by omega, by go_num, hBn.trans hk5, by rw [Htk.out]; exact hJ5⟩
              case measure => simp [intOf]; omega
            · gi_wp2
              refine bodyPost_ret (results_none rfl _ _ _) rfl ?_
              refine ⟨⟨_, rfl⟩, .inr ⟨_, ?_, hJx5⟩⟩
              rw [← Htk.out]
              unfold cntR
              exact ⟨(xs.drop (k + 1)).filter fun x => counts (xs.map Rate.head) known x.head, by rw [← List.filter_append, List.take_append_drop]⟩
        · have Hf : Hid (counts (xs.map Rate.head) known x.head = false) := Lib.hid (by rw [Hcnt.out]; simp [g2])
          gi_wp2
          refine ⟨fun _ h => (by cases h), ?_⟩
          gi_wp2
          go_roundw
          case rel => exact ⟨k + 1, by omega, by go_num, hBn, hgo Hf.out _ hb4⟩
          case measure => simp [intOf]; omega
      · have g1' : (x.head.of_ == 0) = false := by simpa using g1
        clear g1
        have Hf : Hid (counts (xs.map Rate.head) known x.head = false) := Lib.hid (by rw [Hcnt.out]; simp at g1'; simp [g1'])
        gi_wp2
        refine ⟨fun _ h => (by cases h), ?_⟩
        gi_wp2
        go_roundw
        case rel => exact ⟨k + 1, by omega, by go_num, hBn, hgo Hf.out _ hb4⟩
        case measure => simp [intOf]; omega
    · obtain rfl : k = m := by omega
      have HJ := Lib.hid hJk; clear hJk
      gi_wp2
      go_end0
      refine ⟨⟨_, rfl⟩, .inl ⟨_, rfl, ?_⟩⟩
      have := HJ.out
      rw [List.take_of_length_le (by rw [hlen.out]; exact Nat.le_refl _)] at this
      exact this


/-- counting: the list and the hour are boxed; the function value captures the boxes. -/
theorem countingR_any (a : Option Addr) (m cap : Nat) (known : Int) (w : World) :
    Calls Tryz.prog 91 #[.slice a m cap, .int .i64 known] w fun e w' => e = .returned (.func (.func 133) #[] #[.pointer (some ⟨w.heap.size, 0, none⟩), .pointer (some ⟨w.heap.size + 1, 0, none⟩)]) ∧
      (w.alloc (.cells #[.slice a m cap] 22)).alloc (.cells #[.int .i64 known] 3) = w' := by
  have hmf : ∀ (fn : Fn) (first cap : Array Value) (w : World), (Instr.makeFunc fn first cap).run Tryz.prog w = .ok (.func fn first cap) w := fun _ _ _ _ => rfl
  go_enter Tryz.func91, Tryz.ntmps91
  go_wp2
  go_ret
  exact ⟨rfl, rfl⟩

/-- The iterator that counting hands back, in the world behind the call. -/
theorem countingR_stops (n : Nat) (hn : 1 ≤ n) (a : Option Addr) (m cap : Nat) (xs : List Rate) (known : Int) (w w2 : World) (hw : w2 = (w.alloc (.cells #[.slice a m cap] 22)).alloc (.cells #[.int .i64 known] 3)) (hL : Lst w 9 cR a m cap xs) :
    SeqStopsK Fence.wide n Tryz.prog 133 #[.pointer (some ⟨w.heap.size, 0, none⟩), .pointer (some ⟨w.heap.size + 1, 0, none⟩)] (fun x : Rate => #[aR x])
      (KpOn fun k => k = w.heap.size ∨ k = w.heap.size + 1 ∨ (xs ≠ [] ∧ ∃ off, a = some ⟨k, off, none⟩)) (fun ys => ys = cntR xs known) (fun pre => pre <+: cntR xs known) xs.length w2 := by
  intro l J Jx W hW hJ hJx hY h0
  have hsz : w2.heap.size = w.heap.size + 2 := by rw [hw]; simp
  have hB : Below w.heap.size w w2 := hw ▸ ((Below.refl _ w).alloc (Nat.le_refl _) _).alloc (by simp) _
  have hBW : Below w.heap.size w W := hB.trans (hW.mono hB.size)
  have hxs : xs ≠ [] → ∀ b off, a = some ⟨b, off, none⟩ → b < w.heap.size := by
    intro hne
    obtain ⟨x, xs', rfl⟩ := List.exists_cons_of_ne_nil hne
    obtain ⟨b, off, ha, hlt, _⟩ := hL.at_ 0 x rfl
    exact fun b' off' h => by rw [ha] at h; cases h; exact hlt
  have hc1 : W.cell? ⟨w.heap.size, 0, none⟩ = some (.slice a m cap) := by
    rw [hW.cell (p := ⟨w.heap.size, 0, none⟩) (show w.heap.size < _ by omega), hw]
    exact cell_allocs (by exact cell_of_row _ _ _ _ _ _ (heap_alloc_new w _)) _
  have hc2 : W.cell? ⟨w.heap.size + 1, 0, none⟩ = some (.int .i64 known) := by
    rw [hW.cell (p := ⟨w.heap.size + 1, 0, none⟩) (show w.heap.size + 1 < _ by omega), hw]
    exact cell_of_row _ _ _ _ _ _ (heap_alloc2_new w _ _)
  refine countingR1 n hn l w.heap.size (w.heap.size + 1) _ a m cap xs known J Jx W hJ hc1 hc2 (.inl rfl) (.inr (.inl rfl)) ?_ (hL.below hBW) (fun b off hne h => .inr (.inr ⟨hne, off, h⟩)) hY h0
  rintro k (rfl | rfl | ⟨hne, off, h⟩)
  · have := hW.size; omega
  · have := hW.size; omega
  · have := hxs hne k off h; have := hBW.size; omega

end Go.Proofs.YtollegoajlfdiaaGreat

/-
  Walks: what the carter and the keeper get.
-/
namespace Go.Proofs.YtollegoajlfdiaaGreat
open Go.RowKit Lg Go.Sort Go.Shelf

theorem Blk.regrown {W : World} {B : Nat} {cs : Array Value} {t : TypeId} (h : Blk W B cs t) : ∀ j d os, (grow (redrawn W d) os).cell? ⟨B, j, none⟩ = cs[j]? := fun j d os => (h.below' (below_regrown W d os)).cell j

theorem own_below {W W' : World} {base : Nat} {e : TypeId} {k : Nat} {v : Value} {n : Nat} {xs : List Value} (h : W.ownsRow base e k v n xs) (hb : RowKit.Below W.heap.size W W') : W'.ownsRow base e k v n xs := by
  refine h.kept (grownBy_of_below hb) ?_
  cases v.ownBlock
  · exact .inl rfl
  · exact .inr (by simp)

theorem own_set {W : World} {base B : Nat} {e : TypeId} {k : Nat} {v : Value} {n : Nat} {xs : List Value} (h : W.ownsRow base e k v n xs) (hB : B < base) (o : Nat) (u : Value) : (W.setCell ⟨B, o, none⟩ u).ownsRow base e k v n xs := by
  refine World.ownsRow.kept h (grownBy_setCells W B o [u]) ?_
  cases hv : v.ownBlock with
  | none => exact .inl rfl
  | some g =>
    have := own_ge h g hv
    exact .inr (by simp; omega)

/-- The pot between two steps. -/
def PotS (B base : Nat) (W0 : World) (price cart store find rest : Int) (r : Rate) (s : Sale) (fv : Value) (shs : List Share) (W : World) : Prop :=
  ∃ lv, Blk W B #[.int .i64 price, .int .i64 cart, .int .i64 store, .int .i64 find, .int .i64 rest, .slice none 0 0, .int .i64 r.id, .int .i64 r.known, .int .i64 r.from_, .string r.goods, .int .i64 r.finder.num, .int .i64 r.finder.den, .int .i64 r.cart, .int .i64 r.store, .int .i64 r.of_, .int .i64 s.id, .int .i64 s.known, .int .i64 s.hour, .int .i64 s.parcel, .int .i64 s.price, .int .i64 s.carter, .int .i64 s.keeper, .int .i64 s.since, .int .i64 s.of_, fv, lv] 104 ∧ W.ownsRow base 69 2 lv shs.length (shs.flatMap cSh) ∧ base ≤ W.heap.size ∧ RowKit.Below B W0 W

set_option maxRecDepth 100000 in
set_option maxHeartbeats 1600000 in
theorem carting_any (B base : Nat) (W0 : World) (price cart store find rest c m : Int) (r : Rate) (s : Sale) (fv : Value) (shs : List Share) (W : World) (hP : PotS B base W0 price cart store find rest r s fv shs W) (hlt : B < base) (hn : shs.length ≤ 1000)
    (hc : (feesOf r s).1.1 = c) (hc1 : 0 ≤ c ∧ c ≤ 4000000000000000000) (hr : 0 ≤ rest ∧ rest ≤ 4000000000000000000) (hm : m = min c rest) :
    Calls Tryz.prog 75 #[.pointer (some ⟨B, 0, none⟩)] W fun e w' => e = .returned (.tuple #[]) ∧ PotS B base W0 price m store find (rest - m) r s fv (shs ++ [Share.mk s.carter m]) w' := by
  obtain ⟨lv, hB, ho, hbs, hbel⟩ := hP
  have c0 := hB.regrown
  have cF := regrown_call (w := W) (v := .tuple #[.int .i64 (feesOf r s).1.1, .int .i64 (feesOf r s).1.2, .int .i64 (feesOf r s).2]) (fun W' _ => fees_any r s W')
  rw [hc] at cF
  have Hc := Lib.hid hc; clear hc
  have Hm := Lib.hid hm; clear hm
  generalize (feesOf r s).1.2 = c2 at *
  generalize (feesOf r s).2 = c3 at *
  go_enter Tryz.func75, Tryz.ntmps75
  go_wp2_with (fail)
  refine wp_region_quiet_below (by kernel_rfl) (by kernel_rfl) ?_
  repeat (go_big_quiet_step (exact cF _ _))
  refine wpQuiet_nil ?_
  intro _ hw'
  obtain ⟨⟨dq, osq⟩, hw''⟩ := hw'
  subst hw''
  have hg := below_regrown W dq osq
  have hB1 := hB.below' hg
  have ho1 := own_below ho hg
  have hbs1 := Nat.le_trans hbs hg.size
  have hbel1 := hbel.trans (hg.mono (Nat.le_of_lt hB.lt))
  clear c0 cF
  change Exit.then _ _ _ _ (grow (redrawn W dq) osq)
  generalize grow (redrawn W dq) osq = w1 at *
  have c1 := hB1.cell
  have f1 := hB1.frozen
  go_wp2_with (fail)
  refine (takes_any B price cart store find rest c m r s fv lv w1 hB1 hc1 hr Hm.out).mono ?_
  rintro e w2 ⟨rfl, rfl⟩
  go_wp2_with (fail)
  obtain ⟨w3, hw3⟩ : ∃ w3, w3 = (w1.setCell ⟨B, 4, none⟩ (.int .i64 (rest - m))).setCell ⟨B, 1, none⟩ (.int .i64 m) := ⟨_, rfl⟩
  rw [← hw3]
  have e41 : (((#[.int .i64 price, .int .i64 cart, .int .i64 store, .int .i64 find, .int .i64 rest, .slice none 0 0, .int .i64 r.id, .int .i64 r.known, .int .i64 r.from_, .string r.goods, .int .i64 r.finder.num, .int .i64 r.finder.den, .int .i64 r.cart, .int .i64 r.store, .int .i64 r.of_, .int .i64 s.id, .int .i64 s.known, .int .i64 s.hour, .int .i64 s.parcel, .int .i64 s.price, .int .i64 s.carter, .int .i64 s.keeper, .int .i64 s.since, .int .i64 s.of_, fv, lv]).setIfInBounds 4 (.int .i64 (rest - m))).setIfInBounds 1 (.int .i64 m)) = #[.int .i64 price, .int .i64 m, .int .i64 store, .int .i64 find, .int .i64 (rest - m), .slice none 0 0, .int .i64 r.id, .int .i64 r.known, .int .i64 r.from_, .string r.goods, .int .i64 r.finder.num, .int .i64 r.finder.den, .int .i64 r.cart, .int .i64 r.store, .int .i64 r.of_, .int .i64 s.id, .int .i64 s.known, .int .i64 s.hour, .int .i64 s.parcel, .int .i64 s.price, .int .i64 s.carter, .int .i64 s.keeper, .int .i64 s.since, .int .i64 s.of_, fv, lv] := by kernel_rfl
  have hB3 : Blk w3 B #[.int .i64 price, .int .i64 m, .int .i64 store, .int .i64 find, .int .i64 (rest - m), .slice none 0 0, .int .i64 r.id, .int .i64 r.known, .int .i64 r.from_, .string r.goods, .int .i64 r.finder.num, .int .i64 r.finder.den, .int .i64 r.cart, .int .i64 r.store, .int .i64 r.of_, .int .i64 s.id, .int .i64 s.known, .int .i64 s.hour, .int .i64 s.parcel, .int .i64 s.price, .int .i64 s.carter, .int .i64 s.keeper, .int .i64 s.since, .int .i64 s.of_, fv, lv] 104 := by
    rw [hw3, ← e41]; exact (hB1.setCell 4 _).setCell 1 _
  have ho3 := own_set (own_set ho1 hlt 4 (.int .i64 (rest - m))) hlt 1 (.int .i64 m)
  rw [← hw3] at ho3
  have hbs3 : base ≤ w3.heap.size := by rw [hw3]; simp [World.setCell]; exact hbs1
  have hbel3 : RowKit.Below B W0 w3 := hw3 ▸ (hbel1.setCell (p := ⟨B, 4, none⟩) (Nat.le_refl _) _).setCell (p := ⟨B, 1, none⟩) (Nat.le_refl _) _
  clear hw3 e41 c1 f1 hB1 ho1 hbs1 hbel1 hg
  have c3 := hB3.cell
  go_still_tail 11, (by kernel_rfl)
  change wpList _ _ _ _ _ w3.drew
  go_wp2_with (fail)
  refine (gives_any B base price m store find (rest - m) s.carter m r s fv lv shs w3.drew hB3.drew ho3.drew hlt hbs3 hn).mono ?_
  rintro e w4 ⟨rfl, lv4, hB4, ho4, hbel4, -, -⟩
  go_wp2_with (fail)
  go_end0
  exact ⟨rfl, lv4, hB4, ho4, Nat.le_trans hbs3 hbel4.size, hbel3.drew.trans (hbel4.mono (Nat.le_refl _))⟩

set_option maxRecDepth 100000 in
set_option maxHeartbeats 1600000 in
theorem storing_any (B base : Nat) (W0 : World) (price cart store find rest c m : Int) (r : Rate) (s : Sale) (fv : Value) (shs : List Share) (W : World) (hP : PotS B base W0 price cart store find rest r s fv shs W) (hlt : B < base) (hn : shs.length ≤ 1000)
    (hc : (feesOf r s).1.2 = c) (hc1 : 0 ≤ c ∧ c ≤ 4000000000000000000) (hr : 0 ≤ rest ∧ rest ≤ 4000000000000000000) (hm : m = min c rest) :
    Calls Tryz.prog 76 #[.pointer (some ⟨B, 0, none⟩)] W fun e w' => e = .returned (.tuple #[]) ∧ PotS B base W0 price cart m find (rest - m) r s fv (shs ++ [Share.mk s.keeper m]) w' := by
  obtain ⟨lv, hB, ho, hbs, hbel⟩ := hP
  have c0 := hB.regrown
  have cF := regrown_call (w := W) (v := .tuple #[.int .i64 (feesOf r s).1.1, .int .i64 (feesOf r s).1.2, .int .i64 (feesOf r s).2]) (fun W' _ => fees_any r s W')
  rw [hc] at cF
  have Hc := Lib.hid hc; clear hc
  have Hm := Lib.hid hm; clear hm
  generalize (feesOf r s).1.1 = c2 at *
  generalize (feesOf r s).2 = c3 at *
  go_enter Tryz.func76, Tryz.ntmps76
  go_wp2_with (fail)
  refine wp_region_quiet_below (by kernel_rfl) (by kernel_rfl) ?_
  repeat (go_big_quiet_step (exact cF _ _))
  refine wpQuiet_nil ?_
  intro _ hw'
  obtain ⟨⟨dq, osq⟩, hw''⟩ := hw'
  subst hw''
  have hg := below_regrown W dq osq
  have hB1 := hB.below' hg
  have ho1 := own_below ho hg
  have hbs1 := Nat.le_trans hbs hg.size
  have hbel1 := hbel.trans (hg.mono (Nat.le_of_lt hB.lt))
  clear c0 cF
  change Exit.then _ _ _ _ (grow (redrawn W dq) osq)
  generalize grow (redrawn W dq) osq = w1 at *
  have c1 := hB1.cell
  have f1 := hB1.frozen
  go_wp2_with (fail)
  refine (takes_any B price cart store find rest c m r s fv lv w1 hB1 hc1 hr Hm.out).mono ?_
  rintro e w2 ⟨rfl, rfl⟩
  go_wp2_with (fail)
  obtain ⟨w3, hw3⟩ : ∃ w3, w3 = (w1.setCell ⟨B, 4, none⟩ (.int .i64 (rest - m))).setCell ⟨B, 2, none⟩ (.int .i64 m) := ⟨_, rfl⟩
  rw [← hw3]
  have e41 : (((#[.int .i64 price, .int .i64 cart, .int .i64 store, .int .i64 find, .int .i64 rest, .slice none 0 0, .int .i64 r.id, .int .i64 r.known, .int .i64 r.from_, .string r.goods, .int .i64 r.finder.num, .int .i64 r.finder.den, .int .i64 r.cart, .int .i64 r.store, .int .i64 r.of_, .int .i64 s.id, .int .i64 s.known, .int .i64 s.hour, .int .i64 s.parcel, .int .i64 s.price, .int .i64 s.carter, .int .i64 s.keeper, .int .i64 s.since, .int .i64 s.of_, fv, lv]).setIfInBounds 4 (.int .i64 (rest - m))).setIfInBounds 2 (.int .i64 m)) = #[.int .i64 price, .int .i64 cart, .int .i64 m, .int .i64 find, .int .i64 (rest - m), .slice none 0 0, .int .i64 r.id, .int .i64 r.known, .int .i64 r.from_, .string r.goods, .int .i64 r.finder.num, .int .i64 r.finder.den, .int .i64 r.cart, .int .i64 r.store, .int .i64 r.of_, .int .i64 s.id, .int .i64 s.known, .int .i64 s.hour, .int .i64 s.parcel, .int .i64 s.price, .int .i64 s.carter, .int .i64 s.keeper, .int .i64 s.since, .int .i64 s.of_, fv, lv] := by kernel_rfl
  have hB3 : Blk w3 B #[.int .i64 price, .int .i64 cart, .int .i64 m, .int .i64 find, .int .i64 (rest - m), .slice none 0 0, .int .i64 r.id, .int .i64 r.known, .int .i64 r.from_, .string r.goods, .int .i64 r.finder.num, .int .i64 r.finder.den, .int .i64 r.cart, .int .i64 r.store, .int .i64 r.of_, .int .i64 s.id, .int .i64 s.known, .int .i64 s.hour, .int .i64 s.parcel, .int .i64 s.price, .int .i64 s.carter, .int .i64 s.keeper, .int .i64 s.since, .int .i64 s.of_, fv, lv] 104 := by
    rw [hw3, ← e41]; exact (hB1.setCell 4 _).setCell 2 _
  have ho3 := own_set (own_set ho1 hlt 4 (.int .i64 (rest - m))) hlt 2 (.int .i64 m)
  rw [← hw3] at ho3
  have hbs3 : base ≤ w3.heap.size := by rw [hw3]; simp [World.setCell]; exact hbs1
  have hbel3 : RowKit.Below B W0 w3 := hw3 ▸ (hbel1.setCell (p := ⟨B, 4, none⟩) (Nat.le_refl _) _).setCell (p := ⟨B, 2, none⟩) (Nat.le_refl _) _
  clear hw3 e41 c1 f1 hB1 ho1 hbs1 hbel1 hg
  have c3 := hB3.cell
  go_still_tail 11, (by kernel_rfl)
  change wpList _ _ _ _ _ w3.drew
  go_wp2_with (fail)
  refine (gives_any B base price cart m find (rest - m) s.keeper m r s fv lv shs w3.drew hB3.drew ho3.drew hlt hbs3 hn).mono ?_
  rintro e w4 ⟨rfl, lv4, hB4, ho4, hbel4, -, -⟩
  go_wp2_with (fail)
  go_end0
  exact ⟨rfl, lv4, hB4, ho4, Nat.le_trans hbs3 hbel4.size, hbel3.drew.trans (hbel4.mono (Nat.le_refl _))⟩

end Go.Proofs.YtollegoajlfdiaaGreat

/-
  Walks: the sum of fractions.
-/
namespace Go.Proofs.YtollegoajlfdiaaGreat
open Go.RowKit Lg Go.Sort Go.Shelf

theorem grown_trans {w w1 w2 : World} {r : Option Nat} (h : w.grownBy w1 r) (g : w1.grownBy w2 r) : w.grownBy w2 r :=
  ⟨g.os.trans h.os, g.tape.trans h.tape, g.output.trans h.output, Nat.le_trans h.size g.size, fun k hk hne => (g.block k (Nat.lt_of_lt_of_le hk h.size) hne).trans (h.block k hk hne)⟩
theorem grown_of_below {w w' : World} (r : Option Nat) (h : RowKit.Below w.heap.size w w') : w.grownBy w' r := ⟨h.os, h.tape, h.output, h.size, fun k hk _ => h.block k hk⟩
theorem grown_refl (w : World) (r : Option Nat) : w.grownBy w r := ⟨rfl, rfl, rfl, Nat.le_refl _, fun _ _ _ => rfl⟩

theorem setAll_F (a b : Frac) : setAll #[.int .i64 a.num, .int .i64 a.den] 0 [.int .i64 b.num, .int .i64 b.den] = #[.int .i64 b.num, .int .i64 b.den] := by kernel_rfl

set_option maxRecDepth 100000 in
set_option maxHeartbeats 1600000 in
theorem sum1_ok (a : Option Addr) (n cap : Nat) (xs : List Frac) (Bl Bs : Nat) (w : World) (hBl : Blk w Bl #[.slice a n cap] 97) (hBs : Blk w Bs #[.int .i64 0, .int .i64 1] 166)
    (hL : ∀ W', w.grownBy W' (some Bs) → Lst W' 2 cF a n cap xs) (hok : sumsOk xs) :
    Calls Tryz.prog 144 #[.pointer (some ⟨Bl, 0, none⟩), .pointer (some ⟨Bs, 0, none⟩)] w fun e w' => e = .returned (.tuple #[]) ∧ Blk w' Bs #[.int .i64 (sumFr xs).num, .int .i64 (sumFr xs).den] 166 ∧ w.grownBy w' (some Bs) := by
  have hL0 := hL w (grown_refl _ _)
  have hm : cap ≤ 9223372036854775807 := by have := hL0.max; unfold maxLen at this; omega
  have hle := hL0.le
  have hlen := Lib.hid hL0.len
  clear hL0
  have hne : Bl ≠ Bs := hBl.other hBs (by decide)
  have c0 := hBl.cell
  go_enter Tryz.func144, Tryz.ntmps144
  go_wp2
  go_loopw [6] (fun i wr => ∃ k : Nat, k ≤ n ∧ i = .int .i64 k ∧ Blk wr Bs #[.int .i64 (sumFr (xs.take k)).num, .int .i64 (sumFr (xs.take k)).den] 166 ∧ w.grownBy wr (some Bs)) (fun i _ => n - (intOf i).toNat)
  case atStart => exact ⟨0, Nat.zero_le _, rfl, hBs, grown_refl _ _⟩
  case round =>
    obtain ⟨k, hk, rfl, kS, hg⟩ := hrel
    by_cases hlt : k < n
    · obtain ⟨x, hx⟩ : ∃ x, xs[k]? = some x := ⟨xs[k]'(by rw [hlen.out]; exact hlt), by simp⟩
      have hLr := hL wr hg
      obtain ⟨b, off, rfl, hb, hr⟩ := hLr.at_ k x hx
      obtain ⟨o1, o2, o3⟩ := hok k x hx
      have htk : sumFr (xs.take (k + 1)) = sumStep (sumFr (xs.take k)) x := by
        obtain ⟨h1, h2⟩ := List.getElem?_eq_some_iff.1 hx
        unfold sumFr
        rw [List.take_succ_eq_append_getElem h1, h2, List.foldl_append]; rfl
      have Htk := Lib.hid htk
      have Hx := Lib.hid hx
      clear htk hx hLr
      generalize sumFr (xs.take k) = acc at *
      have hp := fun W => plus_ok acc x W o2 o1 o3
      have hst : sumStep acc x = normN (acc.num * x.den + x.num * acc.den) (acc.den * x.den) := rfl
      rw [← hst] at hp
      rw [hst] at Htk
      have Hst := Lib.hid hst
      rw [← hst] at Htk
      clear hst o1 o2 o3
      generalize sumStep acc x = nx at *
      have cS := kS.cell
      have hltS := kS.lt
      go_wp2_with (first
        | (refine wpList_load_mid rfl 24 _ rfl b (off + k * 2) rfl (cF x) _ hr Tryz.underlying24 rfl (by kernel_rfl) ?_)
        | fail)
      refine (hp _).mono ?_
      clear hp cS
      rintro e w3 ⟨rfl, hB3⟩
      have kS3 := (kS.alloc (.cells #[.int .i64 x.num, .int .i64 x.den] 24)).below' hB3
      have hg3 : w.grownBy w3 (some Bs) := grown_trans hg (grown_of_below _ (((Below.refl _ wr).alloc (Nat.le_refl _) _).trans (hB3.mono (by simp))))
      have c3 := kS3.cell
      have f3 := kS3.frozen
      go_wp2_with (fail)
      go_roundw
      case rel =>
        refine ⟨k + 1, by omega, by go_num, ?_, grown_trans hg3 (grownBy_setCells w3 Bs 0 [.int .i64 nx.num, .int .i64 nx.den])⟩
        rw [Htk.out]
        have h := kS3.setCells 0 [.int .i64 nx.num, .int .i64 nx.den]
        rw [setAll_F] at h
        exact h
      case measure => simp [intOf]; omega
    · obtain rfl : k = n := by omega
      rw [List.take_of_length_le (by rw [hlen.out]; exact Nat.le_refl _)] at kS
      go_wp2
      go_end0
      exact ⟨rfl, kS, hg⟩

set_option maxRecDepth 100000 in
set_option maxHeartbeats 1600000 in
theorem sum_ok (a : Option Addr) (n cap : Nat) (xs : List Frac) (w : World) (hL : Lst w 2 cF a n cap xs) (hn : n ≤ 1000) (hv : (xs.any fun f => !validF f) = false) (hok : sumsOk xs) :
    Calls Tryz.prog 104 #[.slice a n cap] w (Gives w (.tuple #[aF (sumFr xs), .int .i64 0])) := by
  have eg : ∀ args w, (callFunc 144 args).run Tryz.prog w = .ok (.enter 144 args) w := enters_of Tryz.func144 (by kernel_rfl) rfl
  have hmf : ∀ (fn : Fn) (first cap : Array Value) (w : World), (Instr.makeFunc fn first cap).run Tryz.prog w = .ok (.func fn first cap) w := fun _ _ _ _ => rfl
  have hB1 : RowKit.Below w.heap.size w ((w.alloc (.cells #[.slice a n cap] 97)).alloc (.cells #[.int .i64 0, .int .i64 0] 24)) := ((Below.refl _ w).alloc (Nat.le_refl _) _).alloc (by simp) _
  have hva := valid_any a n cap xs ((w.alloc (.cells #[.slice a n cap] 97)).alloc (.cells #[.int .i64 0, .int .i64 0] 24)) (hL.below hB1)
  rw [hv] at hva
  clear hv
  go_enter Tryz.func104, Tryz.ntmps104
  go_wp2_with (fail)
  refine hva.mono ?_
  clear hva
  rintro e w2 ⟨rfl, hB2⟩
  have k1 : Blk w2 w.heap.size #[.slice a n cap] 97 := ((Blk.new w _ _).alloc _).below' hB2
  have k2 : Blk w2 (w.heap.size + 1) #[.int .i64 0, .int .i64 0] 24 := by
    have := (Blk.new (w.alloc (.cells #[.slice a n cap] 97)) 24 #[.int .i64 0, .int .i64 0]).below' hB2
    simpa using this
  have hb2 : RowKit.Below w.heap.size w w2 := hB1.trans (hB2.mono hB1.size)
  obtain ⟨w3, hw3⟩ : ∃ w3, w3 = w2.alloc (.cells #[.int .i64 0, .int .i64 1] 166) := ⟨_, rfl⟩
  have kS : Blk w3 w2.heap.size #[.int .i64 0, .int .i64 1] 166 := hw3 ▸ Blk.new _ _ _
  have hb23 : RowKit.Below w2.heap.size w2 w3 := hw3 ▸ (Below.refl _ w2).alloc (Nat.le_refl _) _
  have k13 := k1.below' hb23
  have k23 := k2.below' hb23
  have hb3 := hb2.trans (hb23.mono hb2.size)
  have hs2 := k2.lt
  have hsS := kS.lt
  have hr := ranged_ok 144 #[.pointer (some ⟨w.heap.size, 0, none⟩), .pointer (some ⟨w2.heap.size, 0, none⟩)] eg w3 (fun w' => Blk w' w2.heap.size #[.int .i64 (sumFr xs).num, .int .i64 (sumFr xs).den] 166 ∧ (w3.alloc (.cells #[.int .i64 0] 29)).grownBy w' (some w2.heap.size)) (by
    refine (sum1_ok a n cap xs w.heap.size w2.heap.size (w3.alloc (.cells #[.int .i64 0] 29)) (k13.alloc _) (kS.alloc _) (fun W' hg => ?_) hok).mono ?_
    · refine hL.below ?_
      exact (hb3.alloc hb3.size _).grown hg (by simp; omega) (fun k e => by cases e; omega)
    · rintro e w' ⟨rfl, h1, h2⟩
      refine ⟨rfl, ?_, h1, h2⟩
      exact (Blk.new w3 _ _).kept h2 (by simp; omega))
  rw [hw3] at hr
  go_wp2_with (fail)
  refine hr.mono ?_
  clear hr
  rintro e w5 ⟨rfl, w4, ⟨kS4, hg4⟩, rfl⟩
  rw [← hw3] at hg4 ⊢
  clear hw3
  have k24 : Blk w4 (w.heap.size + 1) #[.int .i64 0, .int .i64 0] 24 := (k23.alloc (.cells #[.int .i64 0] 29)).kept hg4 (by simp; omega)
  have hb4 : RowKit.Below w.heap.size w w4 := (hb3.alloc hb3.size (.cells #[.int .i64 0] 29)).grown hg4 (by simp; omega) (fun k e => by cases e; omega)
  have hsz4 := hg4.size
  obtain ⟨w5, hw5⟩ : ∃ w5, w5 = w4.setCell ⟨w3.heap.size, 0, none⟩ (.int .i64 0) := ⟨_, rfl⟩
  rw [← hw5]
  have kS5 : Blk w5 w2.heap.size #[.int .i64 (sumFr xs).num, .int .i64 (sumFr xs).den] 166 := hw5 ▸ kS4.setCell_other (by omega) 0 _
  have k25 : Blk w5 (w.heap.size + 1) #[.int .i64 0, .int .i64 0] 24 := hw5 ▸ k24.setCell_other (by omega) 0 _
  have hb5 : RowKit.Below w.heap.size w w5 := hw5 ▸ hb4.setCell (p := ⟨w3.heap.size, 0, none⟩) (by simp; omega) _
  clear hw5 k24 kS4 k23 k13 k1 k2 kS
  have c5 := kS5.cell
  have c6 := k25.cell
  have f6 := k25.frozen
  generalize sumFr xs = sm at *
  go_wp2_with (fail)
  have hbl : Blk (w5.setCells (w.heap.size + 1) 0 (cF sm)) (w.heap.size + 1) (cF sm).toArray 24 := by
    have h := k25.setCells 0 (cF sm)
    have e : setAll #[.int .i64 0, .int .i64 0] 0 (cF sm) = (cF sm).toArray := by kernel_rfl
    rw [e] at h
    exact h
  (try simp only [Exit.inBlock, Exit.then])
  refine bodyPost_ret (results_cell_tmp rfl _ (w5.setCells (w.heap.size + 1) 0 (cF sm)) (w.heap.size + 1) 24 (cF sm) _ rfl hbl Tryz.underlying24 rfl (by kernel_rfl)) rfl ?_
  have hfin := below_setCells hb5 (show w.heap.size ≤ w.heap.size + 1 by omega) 0 (cF sm)
  exact ⟨rfl, hfin⟩

end Go.Proofs.YtollegoajlfdiaaGreat
