import Derived.Test.YtmeomhojbobpbaaGreatDoorPart34
import Derived.Test.YtmeomhojbobpbaaGreatDoorPart05
import Derived.Test.YtmeomhojbobpbaaGreatDoorPart19
/-
  Walks: slices.DeleteFunc at numbers (a row of the call's own); slices.Backward; copies of numbers.
-/

namespace Go.Proofs.YtmeomhojbobpbaaGreatDoor
open Go.RowKit Lg Go.Sort Go.Shelf

attribute [local go_sem] Oper.semAt_some

set_option maxRecDepth 100000 in
set_option maxHeartbeats 400000 in
theorem indexI0_any (p : Int → Bool) (g : Nat) (lb : Array Value) (eg : ∀ args w, (callFunc g args).run Tryz.prog w = .ok (.enter g args) w) (a : Option Addr) (n cap : Nat) (xs : List Int) (w : World) (hL : Lst w 1 cI a n cap xs)
    (hp : ∀ W x, Below w.heap.size w W → Calls Tryz.prog g (#[.int .i64 x] ++ lb) W (Gives W (.bool (p x)))) :
    Calls Tryz.prog 164 #[.slice a n cap, .func (.func g) #[] lb] w (Gives w (.int .i64 (idxP p xs))) := by
  have hm : cap ≤ 9223372036854775807 := by have := hL.max; unfold maxLen at this; omega
  have hle := hL.le
  have hlen := Lib.hid hL.len
  go_enter Tryz.func164, Tryz.ntmps164
  go_wp2
  go_loopw [8] (fun i wr => ∃ k : Nat, k ≤ n ∧ i = .int .i64 k ∧ Below w.heap.size w wr ∧ ∀ y ∈ xs.take k, p y = false) (fun i _ => n - (intOf i).toNat)
  case atStart => exact ⟨0, Nat.zero_le _, rfl, Below.refl _ _, by simp⟩
  case round =>
    obtain ⟨k, hk, rfl, hB, h0⟩ := hrel
    by_cases hlt : k < n
    · obtain ⟨x, hx⟩ : ∃ x, xs[k]? = some x := ⟨xs[k]'(by rw [hlen.out]; exact hlt), by simp⟩
      obtain ⟨b, off, rfl, hb, hr⟩ := hL.at_ k x hx
      have hck : wr.cell? ⟨b, off + k, none⟩ = some (.int .i64 x) := by
        have := rangeAt_below hB hb hr 0 (.int .i64 x) rfl
        rwa [Nat.mul_one, Nat.add_zero] at this
      have hX := Lib.hid hx; clear hx
      have H0 := Lib.hid h0; clear h0
      go_wp2
      refine (hp wr x hB).mono ?_
      rintro e w2 ⟨rfl, hB2⟩
      have hB3 : Below w.heap.size w w2 := hB.trans (hB2.mono hB.size)
      clear hck
      cases hq : p x with
      | true =>
        have Hq := Lib.hid hq; clear hq
        go_wp2
        go_ret
        exact ⟨by rw [idxP_hit p xs k x hX.out H0.out Hq.out]; rfl, hB3⟩
      | false =>
        have Hq := Lib.hid hq; clear hq
        go_wp2
        go_roundw
        case rel =>
          refine ⟨k + 1, by omega, by go_num, hB3, fun y hy => ?_⟩
          have := List.getElem?_eq_some_iff.1 hX.out
          obtain ⟨h1, h2⟩ := this
          rw [List.take_succ_eq_append_getElem h1, h2] at hy
          rcases List.mem_append.1 hy with hy | hy
          · exact H0.out y hy
          · simp at hy; subst hy; exact Hq.out
        case measure => simp [intOf]; omega
    · obtain rfl : k = n := by omega
      have H0 := Lib.hid h0; clear h0
      go_wp2
      go_ret
      exact ⟨by rw [idxP_miss p xs (fun y hy => H0.out y (by rw [List.take_of_length_le (by rw [hlen.out]; exact Nat.le_refl _)]; exact hy))]; rfl, hB⟩

theorem zeroVI : ∀ w, (zeroValue 3).run Tryz.prog w = .ok (.int .i64 0) w := fun w => by kernel_rfl
theorem cellsI_one : ∀ v ∈ (Value.int .i64 0).cells, v.oneCell' = true := by
  rw [show (Value.int .i64 0).cells = #[.int .i64 0] from by kernel_rfl]
  intro v hv
  obtain rfl : v = .int .i64 0 := by simpa using hv
  rfl

set_option maxRecDepth 100000 in
set_option maxHeartbeats 800000 in
theorem delI_some (p : Int → Bool) (g : Nat) (lb : Array Value) (eg : ∀ args w, (callFunc g args).run Tryz.prog w = .ok (.enter g args) w) (base b off n cap : Nat) (cur : Array Value) (xs : List Int) (w : World) (hoff : off = 0) (hn : n ≤ 1000)
    (hb : base ≤ b) (kb : Blk w b cur 3) (hnc : n ≤ cap) (hcm : cap ≤ maxLen) (hcur : cur.size = cap * 1) (ht : cur.toList.take (n * 1) = xs.flatMap cI) (hxl : xs.length = n)
    (hp : ∀ W x, RowKit.Below base w W → Calls Tryz.prog g (#[.int .i64 x] ++ lb) W (Gives W (.bool (p x)))) :
    Calls Tryz.prog 121 #[.slice (some ⟨b, off, none⟩) n cap, .func (.func g) #[] lb] w fun e w' => ∃ v, e = .returned v ∧ w'.ownsRow base 3 1 v (xs.filter fun x => !p x).length ((xs.filter fun x => !p x).flatMap cI) ∧ RowKit.Below base w w' := by
  have hm : cap ≤ 9223372036854775807 := by unfold maxLen at hcm; omega
  have hbl := kb.lt
  have hL : Lst w 1 cI (some ⟨b, off, none⟩) n cap xs := ⟨hxl, hnc, hcm, fun i x hx => ⟨b, off, rfl, hbl, fun j u hu => by
    have hp := flat_put cI 1 (fun _ => rfl) xs i j x u hx hu
    rw [← ht] at hp
    have hj : i * 1 + j < n * 1 := by
      have := (List.getElem?_eq_some_iff.1 hp).1
      rw [List.length_take] at this; omega
    rw [List.getElem?_take_of_lt hj, Array.getElem?_toList] at hp
    rw [kb.cell, hoff, Nat.zero_add]; exact hp⟩⟩
  have hidx := indexI0_any p g lb eg (some ⟨b, off, none⟩) n cap xs w hL (fun W x hW => hp W x (hW.mono (by omega)))
  clear hL
  rcases idxP_cases p xs with ⟨h1, h2⟩ | ⟨k0, x0, hx0, h1, hp0, h2⟩
  · rw [h1] at hidx
    have hf : xs.filter (fun x => !p x) = xs := List.filter_eq_self.2 (fun y hy => by simp [h2 y hy])
    rw [hf, hxl]
    have Hoff := Lib.hid hoff
    have Ht := Lib.hid ht
    have Hcur := Lib.hid hcur
    clear hf h1 h2 hp hxl ht hcur hoff
    go_enter Tryz.func121, Tryz.ntmps121
    go_wp2_with (fail)
    refine hidx.mono ?_
    clear hidx
    rintro e w2 ⟨rfl, hB2⟩
    go_wp2_with (fail)
    go_ret
    refine ⟨_, rfl, ⟨?_, .inr ⟨b, cap, cur, by rw [Hoff.out]; rfl, hb, kb.below' hB2, hnc, hcm, Hcur.out, Ht.out⟩⟩, hB2.mono (by omega)⟩
    rw [← Ht.out, List.length_take, Array.length_toList, Hcur.out]
    omega
  · rw [h1] at hidx
    have hk0 : k0 < n := by have := (List.getElem?_eq_some_iff.1 hx0).1; omega
    have hfirst := Lib.hid (kept_first hx0 h2 hp0)
    have Hp := Lib.hid hp
    have Hoff := Lib.hid hoff
    have Ht := Lib.hid ht
    have Hcur := Lib.hid hcur
    have Hxl := Lib.hid hxl
    have hne1 : ((k0 : Int) == -1) = false := beq_eq_false_iff_ne.2 (by omega)
    clear h1 h2 hp hxl ht hcur hoff hx0 hp0
    go_enter Tryz.func121, Tryz.ntmps121
    go_wp2_with (fail)
    refine hidx.mono ?_
    clear hidx
    rintro e w2 ⟨rfl, hB2⟩
    have kb2 := Lib.hid (kb.below' hB2)
    have hB0 : RowKit.Below base w w2 := hB2.mono (by omega)
    clear hB2 kb
    go_wp2_with (fail)
    go_loopw [5, 6] (fun s5 s6 wr => ∃ (i j : Nat) (ys : List Int) (cu : Array Value), s5 = .int .i64 i ∧ s6 = .int .i64 j ∧ i < j ∧ j ≤ n ∧ Blk wr b cu 3 ∧ RowKit.Below base w wr ∧ Hid (ys.length = n ∧ ys.take i = (xs.take j).filter (fun x => !p x) ∧ ys.drop j = xs.drop j ∧ cu.size = cap * 1 ∧ cu.toList.take (n * 1) = ys.flatMap cI)) (fun _ s6 _ => n - (intOf s6).toNat)
    case atStart => exact ⟨k0, k0 + 1, xs, cur, rfl, by go_num, by omega, by omega, kb2.out, hB0, Lib.hid ⟨Hxl.out, hfirst.out, rfl, Hcur.out, Ht.out⟩⟩
    case round =>
      clear hfirst hne1 hB0 kb2 hk0
      obtain ⟨i, j, ys, cu, rfl, rfl, hij, hjn, kbr, hB, HI⟩ := hrel
      have hbr := kbr.lt
      by_cases hlt : j < n
      · obtain ⟨x, hx⟩ : ∃ x, xs[j]? = some x := ⟨xs[j]'(by rw [Hxl.out]; exact hlt), by simp⟩
        have hr : wr.rangeAt b (off + j * 1) (cI x) := fun r u hu => by
          obtain ⟨h1, h2, h3, h4, h5⟩ := HI.out
          have hy : ys[j]? = some x := by
            have e1 : (ys.drop j)[0]? = (xs.drop j)[0]? := by rw [h3]
            rw [List.getElem?_drop, List.getElem?_drop, Nat.add_zero, hx] at e1
            exact e1
          have hpp := flat_put cI 1 (fun _ => rfl) ys j r x u hy hu
          rw [← h5] at hpp
          have hj : j * 1 + r < n * 1 := by
            have := (List.getElem?_eq_some_iff.1 hpp).1
            rw [List.length_take] at this; omega
          rw [List.getElem?_take_of_lt hj, Array.getElem?_toList] at hpp
          rw [kbr.cell, Hoff.out, Nat.zero_add]; exact hpp
        have hcall := Hp.out wr x hB
        have hcj : wr.cell? ⟨b, off + j, none⟩ = some (.int .i64 x) := by
          have := hr 0 (.int .i64 x) rfl
          rwa [Nat.mul_one, Nat.add_zero] at this
        clear hr
        have hX := Lib.hid hx
        have hltz : (j : Int) < (n : Int) := by omega
        have hltzi : (i : Int) < (n : Int) := by omega
        have hltni : i < n := by omega
        clear hx
        cases hq : p x with
        | false =>
          rw [hq] at hcall
          have Hq := Lib.hid hq
          clear hq
          go_wp2_with (fail)
          refine hcall.mono ?_
          clear hcall
          rintro e w3 ⟨rfl, hB3⟩
          have hB4 : RowKit.Below base w w3 := hB.trans (hB3.mono (by have := hB.size; omega))
          have kb3 := kbr.below' hB3
          have hb3 := kb3.lt
          obtain ⟨old, hold⟩ : ∃ old, w3.cell? ⟨b, off + i, none⟩ = some old := by
            rw [kb3.cell]
            exact ⟨_, Array.getElem?_eq_getElem (by rw [HI.out.2.2.2.1, Hoff.out]; omega)⟩
          have hfr : w3.frozen? ⟨b, off + i, none⟩ = false := kb3.frozen _
          clear hcj
          go_wp2_with (fail)
          go_roundw
          case rel =>
            obtain ⟨h1, h2, h3, h4, h5⟩ := HI.out
            obtain ⟨e1, e2⟩ := kept_set hX.out (Nat.le_of_lt hij) h2 h3 (by rw [h1, Hxl.out]) (by rw [Hq.out]; rfl)
            refine ⟨i + 1, j + 1, ys.set i x, setAll cu (i * 1) (cI x), by go_num, by go_num, by omega, by omega, ?_, below_setCells hB4 hb (off + i) [.int .i64 x], Lib.hid ⟨by rw [List.length_set]; exact h1, e1, e2, by rw [setAll_size]; exact h4, take_setAll cI 1 (by omega) (fun _ => rfl) ys n cap i x cu h4 hnc h1 (by omega) h5⟩⟩
            have := kb3.setCells (off + i) [.int .i64 x]
            rw [Hoff.out, Nat.zero_add] at this
            rw [Hoff.out, Nat.zero_add, Nat.mul_one]
            exact this
          case measure => simp [intOf]; omega
        | true =>
          rw [hq] at hcall
          have Hq := Lib.hid hq
          clear hq
          go_wp2_with (fail)
          refine hcall.mono ?_
          clear hcall
          rintro e w3 ⟨rfl, hB3⟩
          have hB4 : RowKit.Below base w w3 := hB.trans (hB3.mono (by have := hB.size; omega))
          have kb3 := kbr.below' hB3
          clear hcj
          go_wp2_with (fail)
          go_roundw
          case rel =>
            obtain ⟨h1, h2, h3, h4, h5⟩ := HI.out
            obtain ⟨e1, e2⟩ := kept_skip hX.out h2 h3 (by rw [Hq.out]; rfl)
            exact ⟨i, j + 1, ys, cu, rfl, by go_num, by omega, by omega, kb3, hB4, Lib.hid ⟨h1, e1, e2, h4, h5⟩⟩
          case measure => simp [intOf]; omega
      · obtain rfl : j = n := by omega
        have hcz : (Value.int .i64 0).cells.size = 1 := by kernel_rfl
        have hcl : ∀ ty, (Builtin.clear_ #[30] ty #[.slice (some ⟨b, off + i, none⟩) (j - i) (cap - i)]).run Tryz.prog wr = .ok (.tuple #[]) (wr.setCells b (off + i) (Builtin.zeroCells (Value.int .i64 0).cells (j - i)).toList) :=
          fun ty => run_clear_any wr _ _ ty _ Tryz.underlying30 zeroVI cellsI_one (by rw [hcz]; omega) b (off + i) _ _ (by omega)
            (fun t ht => by
              have hq := HI.out.2.2.2.1
              rw [hcz] at ht
              rw [kbr.cell, Array.getElem?_eq_getElem (by rw [hq, Hoff.out]; omega)]; rfl)
            (fun t ht => kbr.frozen _)
        go_wp2_with (fail)
        go_ret
        obtain ⟨h1, h2, h3, h4, h5⟩ := HI.out
        have hfl : xs.filter (fun x => !p x) = ys.take i := by rw [h2, List.take_of_length_le (by rw [Hxl.out]; exact Nat.le_refl _)]
        have hli : (ys.take i).length = i := by rw [List.length_take]; omega
        rw [hfl, hli]
        refine ⟨_, rfl, ⟨by rw [flat_len cI 1 (fun _ => rfl), hli], .inr ⟨b, cap, setAll cu (i * 1) (Builtin.zeroCells (Value.int .i64 0).cells (j - i)).toList, by rw [Hoff.out]; rfl, hb, ?_, by omega, hcm, by rw [setAll_size]; exact h4, take_setAll_lo cI 1 (fun _ => rfl) ys j cap i _ cu h4 hnc (by omega) h1 h5⟩⟩, below_setCells hB hb _ _⟩
        have := kbr.setCells (off + i) (Builtin.zeroCells (Value.int .i64 0).cells (j - i)).toList
        rw [Hoff.out, Nat.zero_add] at this
        rw [Hoff.out, Nat.zero_add, Nat.mul_one]
        exact this

set_option maxRecDepth 100000 in
set_option maxHeartbeats 800000 in
theorem delI_nil (p : Int → Bool) (g : Nat) (lb : Array Value) (eg : ∀ args w, (callFunc g args).run Tryz.prog w = .ok (.enter g args) w) (w : World)
    (hp : ∀ W x, RowKit.Below w.heap.size w W → Calls Tryz.prog g (#[.int .i64 x] ++ lb) W (Gives W (.bool (p x)))) :
    Calls Tryz.prog 121 #[.slice none 0 0, .func (.func g) #[] lb] w fun e w' => e = .returned (.slice none 0 0) ∧ RowKit.Below w.heap.size w w' := by
  have hidx := indexI0_any p g lb eg none 0 0 [] w (Lst.nil w 1 cI) hp
  rw [show idxP p [] = -1 from rfl] at hidx
  clear hp
  go_enter Tryz.func121, Tryz.ntmps121
  go_wp2_with (fail)
  refine hidx.mono ?_
  clear hidx
  rintro e w2 ⟨rfl, hB2⟩
  go_wp2_with (fail)
  go_ret
  exact ⟨rfl, hB2⟩

theorem delI_own (p : Int → Bool) (g : Nat) (lb : Array Value) (eg : ∀ args w, (callFunc g args).run Tryz.prog w = .ok (.enter g args) w) (base n : Nat) (v : Value) (xs : List Int) (w : World) (hn : n ≤ 1000) (hbw : base ≤ w.heap.size)
    (ho : w.ownsRow base 3 1 v n (xs.flatMap cI))
    (hp : ∀ W x, RowKit.Below base w W → Calls Tryz.prog g (#[.int .i64 x] ++ lb) W (Gives W (.bool (p x)))) :
    Calls Tryz.prog 121 #[v, .func (.func g) #[] lb] w fun e w' => ∃ v, e = .returned v ∧ w'.ownsRow base 3 1 v (xs.filter fun x => !p x).length ((xs.filter fun x => !p x).flatMap cI) ∧ RowKit.Below base w w' := by
  have hxl : xs.length = n := ownsRow_flat (enc := cI) (k := 1) (fun _ => rfl) (by omega) ho
  obtain ⟨h0, ⟨rfl, rfl⟩ | ⟨b, cap, cur, rfl, hb, hg, hnc, hcm, hcur, htk⟩⟩ := ho
  · obtain rfl := List.eq_nil_of_length_eq_zero hxl
    refine (delI_nil p g lb eg w (fun W x hW => hp W x (hW.mono hbw))).mono ?_
    rintro e w' ⟨rfl, hB⟩
    exact ⟨_, rfl, ⟨rfl, .inl ⟨rfl, rfl⟩⟩, hB.mono hbw⟩
  · exact delI_some p g lb eg base b 0 n cap cur xs w rfl hn hb hg hnc hcm hcur htk hxl hp

/-- The iterator over a list from its end. -/
def backs (xs : List Int) : List (Int × Int) := (List.range xs.length).reverse.map fun i : Nat => ((i : Int), xs.getD i 0)
theorem backs_snd (xs : List Int) : (backs xs).map Prod.snd = xs.reverse := by
  unfold backs
  rw [List.map_map, ← List.map_reverse.symm]
  congr 1
  apply List.ext_getElem?
  intro i
  by_cases h : i < xs.length
  · simp [h]
  · simp [h]

set_option maxRecDepth 100000 in
set_option maxHeartbeats 1600000 in
theorem backward1 (n : Nat) (hn : 1 ≤ n) (l Bl : Nat) (S : Nat → Prop) (a : Option Addr) (m cap : Nat) (xs : List Int) (J Jx : List (Int × Int) → World → Prop)
    (W : World) (_hJ : AbidesFrom W.heap.size J) (hBl : W.cell? ⟨Bl, 0, none⟩ = some (.slice a m cap)) (hS1 : S Bl) (hSlt : ∀ k, S k → k < W.heap.size)
    (hL : Lst W 1 cI a m cap xs) (hLb : ∀ b off, xs ≠ [] → a = some ⟨b, off, none⟩ → S b)
    (hY : ∀ pre x W1, J pre W1 → pre.length < xs.length → YieldAt Fence.wide (n - 1) Tryz.prog l #[.int .i64 x.1, .int .i64 x.2] W1 fun e W' =>
      (e = .returned (.bool true) ∧ J (pre ++ [x]) W' ∧ KpOn S W1 W') ∨ (e = .returned (.bool false) ∧ Jx (pre ++ [x]) W'))
    (h0 : J [] W) :
    CallsIn Fence.wide n Tryz.prog 163 #[.func (.yield l) #[] #[], .pointer (some ⟨Bl, 0, none⟩)] W fun e W' => (∃ v, e = .returned v) ∧
      ((∃ ys, ys = backs xs ∧ J ys W') ∨ (∃ pre, pre <+: backs xs ∧ Jx pre W')) := by
  have hm : cap ≤ 9223372036854775807 := by have := hL.max; unfold maxLen at this; omega
  have hle := hL.le
  have hlen := Lib.hid hL.len
  refine callsIn_of_wp Tryz.func163 rfl trivial ?_ rfl
  simp only [Tryz.ntmps163, List.size_toArray, List.length_cons, List.length_nil, Nat.reduceAdd, Nat.reduceSub, Array.replicate_succ, Array.replicate_zero, List.push_toArray, List.append_toArray, List.nil_append, List.cons_append]
  gi_wp2
  gi_loopw [3] (fun i wr => ∃ k : Nat, k ≤ m ∧ i = .int .i64 ((k : Int) - 1) ∧ KpOn S W wr ∧ J ((backs xs).take (m - k)) wr) (fun i _ => (intOf i + 1).toNat)
  case atStart => exact ⟨m, Nat.le_refl _, by go_num, KpOn.refl _ _, by rw [Nat.sub_self]; exact h0⟩
  case round =>
    obtain ⟨k, hk, rfl, hB, hJk⟩ := hrel
    have hlt1 := hSlt _ hS1
    have hBl1 : wr.cell? ⟨Bl, 0, none⟩ = some (.slice a m cap) := (hB.cell (p := ⟨Bl, 0, none⟩) hS1).trans hBl
    by_cases hlt : 0 < k
    · obtain ⟨j, rfl⟩ : ∃ j, k = j + 1 := ⟨k - 1, by omega⟩
      obtain ⟨x, hx⟩ : ∃ x, xs[j]? = some x := ⟨xs[j]'(by rw [hlen.out]; omega), by simp⟩
      obtain ⟨b, off, rfl, hb, hr⟩ := hL.at_ j x hx
      have hne : xs ≠ [] := fun h => by rw [h] at hx; simp at hx
      have hck : wr.cell? ⟨b, off + j, none⟩ = some (.int .i64 x) := by
        have := rangeAt_kp hB (hLb b off hne rfl) hr 0 (.int .i64 x) rfl
        rwa [Nat.mul_one, Nat.add_zero] at this
      have hlp : ((backs xs).take (m - (j + 1))).length < xs.length := by
        have h2 := List.length_take_le (m - (j + 1)) (backs xs)
        rw [hlen.out]; omega
      have hnx : (backs xs).take (m - j) = (backs xs).take (m - (j + 1)) ++ [((j : Int), x)] := by
        have hbl : (backs xs).length = m := by unfold backs; simp [hlen.out]
        have e1 : m - j = (m - (j + 1)) + 1 := by omega
        rw [e1, List.take_succ_eq_append_getElem (by rw [hbl]; omega)]
        congr 2
        unfold backs
        rw [List.getElem_map, List.getElem_reverse, List.getElem_range]
        have e2 : (List.range xs.length).length - 1 - (m - (j + 1)) = j := by rw [List.length_range, hlen.out]; omega
        rw [e2, List.getD_eq_getElem?_getD, hx]; rfl
      have Hnx := Lib.hid hnx
      obtain ⟨fn, tmps, assign, body, hy, hR⟩ := hY _ ((j : Int), x) wr hJk hlp
      have hj1 : (((j + 1 : Nat) : Int) - 1) = (j : Int) := by omega
      have HJ := Lib.hid hJk
      have HX := Lib.hid hx
      clear hJk hnx hlp hx hr
      rw [hj1]
      gi_wp2
      refine hR.mono ?_
      rintro e w5 (⟨rfl, hJ5, hk5⟩ | ⟨rfl, hJx5⟩)
      · gi_wp2
        go_roundw
        case rel => exact ⟨j, by omega, by go_num, hB.trans hk5, by rw [Hnx.out]; exact hJ5⟩
        case measure => simp [intOf]
      · gi_wp2
        refine bodyPost_ret (results_none rfl _ _ _) rfl ?_
        refine ⟨⟨_, rfl⟩, .inr ⟨_, ?_, hJx5⟩⟩
        rw [← Hnx.out]
        exact List.take_prefix _ _
    · obtain rfl : k = 0 := by omega
      have HJ := Lib.hid hJk; clear hJk
      gi_wp2
      go_end0
      refine ⟨⟨_, rfl⟩, .inl ⟨_, rfl, ?_⟩⟩
      have := HJ.out
      rwa [Nat.sub_zero, List.take_of_length_le (by unfold backs; simp [hlen.out])] at this

theorem backward_any (a : Option Addr) (m cap : Nat) (w : World) :
    Calls Tryz.prog 119 #[.slice a m cap] w fun e w' => e = .returned (.func (.func 163) #[] #[.pointer (some ⟨w.heap.size, 0, none⟩)]) ∧ w.alloc (.cells #[.slice a m cap] 30) = w' := by
  have hmf : ∀ (fn : Fn) (first cap : Array Value) (w : World), (Instr.makeFunc fn first cap).run Tryz.prog w = .ok (.func fn first cap) w := fun _ _ _ _ => rfl
  go_enter Tryz.func119, Tryz.ntmps119
  go_wp2
  go_ret
  exact ⟨rfl, rfl⟩

theorem backward_stops (n : Nat) (hn : 1 ≤ n) (a : Option Addr) (m cap : Nat) (xs : List Int) (w w2 : World) (hw : w2 = w.alloc (.cells #[.slice a m cap] 30)) (hL : Lst w 1 cI a m cap xs) :
    SeqStopsK Fence.wide n Tryz.prog 163 #[.pointer (some ⟨w.heap.size, 0, none⟩)] (fun x : Int × Int => #[.int .i64 x.1, .int .i64 x.2])
      (KpOn fun k => k = w.heap.size ∨ (xs ≠ [] ∧ ∃ off, a = some ⟨k, off, none⟩)) (fun ys => ys = backs xs) (fun pre => pre <+: backs xs) xs.length w2 := by
  intro l J Jx W hW hJ hJx hY h0
  have hsz : w2.heap.size = w.heap.size + 1 := by rw [hw]; simp
  have hB : RowKit.Below w.heap.size w w2 := hw ▸ (Below.refl _ w).alloc (Nat.le_refl _) _
  have hBW : RowKit.Below w.heap.size w W := hB.trans (hW.mono hB.size)
  have hxs : xs ≠ [] → ∀ b off, a = some ⟨b, off, none⟩ → b < w.heap.size := by
    intro hne
    obtain ⟨x, xs', rfl⟩ := List.exists_cons_of_ne_nil hne
    obtain ⟨b, off, ha, hlt, _⟩ := hL.at_ 0 x rfl
    exact fun b' off' h => by rw [ha] at h; cases h; exact hlt
  have hc1 : W.cell? ⟨w.heap.size, 0, none⟩ = some (.slice a m cap) := by
    rw [hW.cell (p := ⟨w.heap.size, 0, none⟩) (show w.heap.size < _ by omega), hw]
    exact cell_of_row _ _ _ _ _ _ (heap_alloc_new w _)
  refine backward1 n hn l w.heap.size _ a m cap xs J Jx W hJ hc1 (.inl rfl) ?_ (hL.below hBW) (fun b off hne h => .inr ⟨hne, off, h⟩) hY h0
  rintro k (rfl | ⟨hne, off, h⟩)
  · have := hW.size; omega
  · have := hxs hne k off h; have := hBW.size; omega

end Go.Proofs.YtmeomhojbobpbaaGreatDoor

/-
  A region that draws its order and makes calls, inside a round of a loop over an iterator: the laws that serve outside serve there too.
-/
namespace Go.Proofs.YtmeomhojbobpbaaGreatDoor
open Go.RowKit
section
variable {P : Program} {ops : Array Oper} {md : Region.Mode} {r n : Nat}

/-- No operation is a deferred call. -/
def noDefer (ops : Array Oper) : Bool := ops.all fun o => match o.op with | .defer _ => false | _ => true
theorem noDefer_spec (h : noDefer ops = true) {i : Nat} {o : Oper} (ho : ops[i]? = some o) : ∀ c, o.op ≠ .defer c := by
  intro c hc
  obtain ⟨hi, he⟩ := Array.getElem?_eq_some_iff.1 ho
  have := (Array.all_eq_true.1 h) i hi
  rw [he, hc] at this
  cases this

theorem rowsIn_wide {row : String} {args : Array Value} {w : World} {R : Value → World → Prop} (h : Rows P row args w R) : RowsIn Fence.wide n P row args w R :=
  fun c cs _ => let ⟨v, w', q, s⟩ := h c cs; ⟨v, w', q, stepsIn_wide.2 s⟩

theorem operInRound_of_wp {o : Oper} {a : Act} {K : Act → World → Prop} {Q : Exit → Act → World → Prop} {w : World} (hd : ∀ c, o.op ≠ .defer c) (h : o.wp P a w K Q) : o.wpIn (Fence.wide.inRound r) n P a w K Q := by
  unfold Oper.wpIn
  refine ⟨fun _ _ => trivial, ?_⟩
  rw [Oper.semAt_eq _ _ _ hd]
  unfold Oper.wp at h
  generalize (execOp a.eval o).run P w = res at *
  cases res with
  | ok x w' =>
    cases x with
    | value u => exact h
    | skip => exact h
    | defer d => exact h
    | enter f args =>
      refine ⟨fun h => by simp [Fence.wide] at h, CallsIn.inRound r (callsIn_wide.2 (Calls.mono h fun e w'' q => ?_))⟩
      cases e <;> exact q
    | row row args => exact ⟨fun h => by simp [Fence.wide] at h, show RowsIn Fence.wide (n - 1) P row args w' _ from rowsIn_wide h⟩
    | _ => exact False.elim h
  | halt x w' =>
    cases x with
    | panic v => exact h
    | _ => exact False.elim h

theorem wpAnyInRound_of_any {Q : Exit → Act → World → Prop} (hd : noDefer ops = true) (hno : ¬ LetsOut Q) : ∀ (fuel : Nat) (listed : Array Bool) (a : Act) (w : World),
    wpAny P md ops Q fuel listed a w → wpAnyIn (Fence.wide.inRound r) n P md ops Q fuel listed a w
  | 0, _, _, _, h => h
  | fuel + 1, listed, a, w, h => ⟨h.1, fun i hi => by
    have h2 := h.2 i hi
    unfold wpOp at h2
    unfold wpOpIn
    cases ho : ops[i]? with
    | none => simp only [ho] at h2 ⊢; exact wpAnyInRound_of_any hd hno fuel _ _ _ h2
    | some o =>
      simp only [ho] at h2 ⊢
      by_cases hw : Region.wanted o (yielded ops a.tmps) = true
      · simp only [hw, if_true] at h2 ⊢
        rcases h2 with h2 | ⟨_, h2⟩
        · exact Oper.wpIn_mono (fun a w q => wpAnyInRound_of_any hd hno fuel _ a w q) (operInRound_of_wp (noDefer_spec hd ho) h2)
        · exact absurd h2 hno
      · simp only [hw] at h2 ⊢
        exact ⟨fun _ _ => trivial, wpAnyInRound_of_any hd hno fuel _ _ _ h2⟩⟩

theorem wpInRound_region_T {Q : Exit → Act → World → Prop} (S T : World → Prop) (m : Nat) {id : Nat} {a : Act} {w : World} (hm : P.follows .mixedOrders = true) (hd : noDefer ops = true) (hno : ¬ LetsOut Q) (hS : S w.drew) (hT : T w.drew)
    (h : S w.drew → T w.drew → wpAnyT P .any ops Q S T m ops.size (Array.replicate ops.size false) a w.drew) : (Code.region id ops true).wpIn (Fence.wide.inRound r) n P Q a w :=
  wpIn_region_any hm (wpAnyInRound_of_any hd hno _ _ _ _ (wpAny_of_T _ _ _ _ (h hS hT)))

end
end Go.Proofs.YtmeomhojbobpbaaGreatDoor
