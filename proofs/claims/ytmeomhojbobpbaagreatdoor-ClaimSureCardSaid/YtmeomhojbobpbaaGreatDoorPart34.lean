import Derived.Test.YtmeomhojbobpbaaGreatDoorPart26
import Derived.Test.YtmeomhojbobpbaaGreatDoorPart27
import Derived.Test.YtmeomhojbobpbaaGreatDoorPart15
/-
  Walks: slices.DeleteFunc at deeds and at numbers (rows of the call's own); only.
-/
namespace Go.Proofs.YtmeomhojbobpbaaGreatDoor
open Go.RowKit Lg Go.Sort Go.Shelf

theorem idxP_cases {α : Type} (p : α → Bool) : ∀ xs : List α, (idxP p xs = -1 ∧ ∀ y ∈ xs, p y = false) ∨ ∃ (k : Nat) (x : α), xs[k]? = some x ∧ idxP p xs = (k : Int) ∧ p x = true ∧ ∀ y ∈ xs.take k, p y = false
  | [] => .inl ⟨rfl, by simp⟩
  | x :: xs => by
    cases hp : p x with
    | true => exact .inr ⟨0, x, rfl, idxP_hit p (x :: xs) 0 x rfl (by simp) hp, hp, by simp⟩
    | false =>
      rcases idxP_cases p xs with ⟨h1, h2⟩ | ⟨k, y, h1, h2, h3, h4⟩
      · have h5 : ∀ y ∈ x :: xs, p y = false := by
          intro y hy
          rcases List.mem_cons.1 hy with rfl | hy
          · exact hp
          · exact h2 y hy
        exact .inl ⟨idxP_miss p _ h5, h5⟩
      · have h5 : ∀ z ∈ (x :: xs).take (k + 1), p z = false := by
          intro z hz
          rw [List.take_succ_cons] at hz
          rcases List.mem_cons.1 hz with rfl | hz
          · exact hp
          · exact h4 z hz
        exact .inr ⟨k + 1, y, by simpa using h1, idxP_hit p (x :: xs) (k + 1) y (by simpa using h1) h5 h3, h3, h5⟩

theorem setAll_size (vs : List Value) : ∀ (cs : Array Value) (o : Nat), (setAll cs o vs).size = cs.size := by
  induction vs with
  | nil => intros; rfl
  | cons v r ih => intro cs o; simp [setAll, ih]

theorem setAll_get (vs : List Value) : ∀ (cs : Array Value) (o j : Nat), (setAll cs o vs)[j]? = if o ≤ j ∧ j < o + vs.length ∧ j < cs.size then vs[j - o]? else cs[j]? := by
  induction vs with
  | nil => intro cs o j; rw [if_neg (by simp; omega)]; rfl
  | cons v r ih =>
    intro cs o j
    show (setAll (cs.setIfInBounds o v) (o + 1) r)[j]? = _
    rw [ih, Array.size_setIfInBounds, Array.getElem?_setIfInBounds]
    by_cases h : o = j
    · subst h
      rw [if_neg (by omega), if_pos rfl]
      by_cases hs : o < cs.size
      · rw [if_pos hs, if_pos (by simp; omega)]; simp
      · rw [if_neg hs, if_neg (by omega)]; simp; omega
    · by_cases h2 : o + 1 ≤ j ∧ j < o + 1 + r.length ∧ j < cs.size
      · rw [if_pos h2, if_pos (by rw [List.length_cons]; omega)]
        obtain ⟨d, rfl⟩ : ∃ d, j = o + 1 + d := ⟨j - (o + 1), by omega⟩
        rw [show o + 1 + d - o = d + 1 by omega, show o + 1 + d - (o + 1) = d by omega]; rfl
      · rw [if_neg h2, if_neg h, if_neg (by rw [List.length_cons]; omega)]

theorem take_setAll {α : Type} (enc : α → List Value) (k : Nat) (hk0 : 0 < k) (hk : ∀ x, (enc x).length = k) (ys : List α) (n cap i : Nat) (x : α) (cur : Array Value) (hc : cur.size = cap * k) (hnc : n ≤ cap) (hy : ys.length = n) (_hi : i < n) (ht : cur.toList.take (n * k) = ys.flatMap enc) :
    (setAll cur (i * k) (enc x)).toList.take (n * k) = (ys.set i x).flatMap enc := by
  have hnk : n * k ≤ cur.size := by rw [hc]; exact Nat.mul_le_mul_right k hnc
  apply List.ext_getElem?
  intro j
  by_cases hj : j < n * k
  · have hq : j / k < n := (Nat.div_lt_iff_lt_mul hk0).2 hj
    have hr := Nat.mod_lt j hk0
    have hjk : j / k * k + j % k = j := by rw [Nat.mul_comm]; exact Nat.div_add_mod j k
    rw [List.getElem?_take_of_lt hj, Array.getElem?_toList, setAll_get]
    obtain ⟨y, hy'⟩ : ∃ y, (ys.set i x)[j / k]? = some y := ⟨_, List.getElem?_eq_getElem (by rw [List.length_set]; omega)⟩
    have hu : (enc y)[j % k]? = some ((enc y)[j % k]'(by rw [hk]; exact hr)) := List.getElem?_eq_getElem _
    have h1 := flat_put enc k hk _ _ _ _ _ hy' hu
    rw [hjk] at h1
    rw [h1]
    by_cases hi' : j / k = i
    · rw [hi'] at hjk hy'
      rw [if_pos ⟨by omega, by rw [hk]; omega, by omega⟩]
      rw [List.getElem?_set_self (by omega)] at hy'; cases hy'
      rw [show j - i * k = j % k by omega]
      exact hu
    · rw [if_neg (fun h => hi' (Nat.div_eq_of_lt_le h.1 (by rw [Nat.add_mul, Nat.one_mul]; have := h.2.1; rw [hk] at this; exact this)))]
      rw [List.getElem?_set_ne (Ne.symm hi')] at hy'
      have h2 := flat_put enc k hk _ _ _ _ _ hy' hu
      rw [hjk, ← ht, List.getElem?_take_of_lt hj, Array.getElem?_toList] at h2
      exact h2
  · rw [List.getElem?_take_eq_none (by omega), List.getElem?_eq_none (by rw [flat_len enc k hk, List.length_set, hy]; omega)]

/-- What stands ahead of a store stays. -/
theorem take_setAll_lo {α : Type} (enc : α → List Value) (k : Nat) (hk : ∀ x, (enc x).length = k) (ys : List α) (n cap i : Nat) (zs : List Value) (cur : Array Value) (_hc : cur.size = cap * k) (_hnc : n ≤ cap) (hi : i ≤ n) (hy : ys.length = n) (ht : cur.toList.take (n * k) = ys.flatMap enc) :
    (setAll cur (i * k) zs).toList.take (i * k) = (ys.take i).flatMap enc := by
  have hik : i * k ≤ n * k := Nat.mul_le_mul_right k hi
  have e1 : (setAll cur (i * k) zs).toList.take (i * k) = cur.toList.take (i * k) := by
    apply List.ext_getElem?
    intro j
    by_cases hj : j < i * k
    · rw [List.getElem?_take_of_lt hj, List.getElem?_take_of_lt hj, Array.getElem?_toList, Array.getElem?_toList, setAll_get, if_neg (by omega)]
    · rw [List.getElem?_take_eq_none (by omega), List.getElem?_take_eq_none (by omega)]
  have e2 : cur.toList.take (i * k) = (ys.flatMap enc).take (i * k) := by rw [← ht, List.take_take, Nat.min_eq_left hik]
  have e3 : ys.flatMap enc = (ys.take i).flatMap enc ++ (ys.drop i).flatMap enc := by rw [← List.flatMap_append, List.take_append_drop]
  have e4 : ((ys.take i).flatMap enc).length = i * k := by rw [flat_len enc k hk, List.length_take, Nat.min_eq_left (by omega)]
  rw [e1, e2, e3, ← e4, List.take_left']
  rfl

theorem kept_set {α : Type} {p : α → Bool} {xs ys : List α} {i j : Nat} {x : α} (hx : xs[j]? = some x) (hij : i ≤ j) (h1 : ys.take i = (xs.take j).filter p) (h2 : ys.drop j = xs.drop j) (hl : ys.length = xs.length) (hp : p x = true) :
    (ys.set i x).take (i + 1) = (xs.take (j + 1)).filter p ∧ (ys.set i x).drop (j + 1) = xs.drop (j + 1) := by
  obtain ⟨hj, hxe⟩ := List.getElem?_eq_some_iff.1 hx
  constructor
  · rw [List.take_succ_eq_append_getElem (by rw [List.length_set]; omega), List.take_succ_eq_append_getElem hj, hxe, List.filter_append, ← h1]
    rw [List.getElem_set_self]
    congr 1
    · rw [List.take_set_of_le (Nat.le_refl _)]
    · simp [hp]
  · rw [List.drop_set_of_lt (by omega), ← List.drop_drop, ← List.drop_drop, h2]
theorem kept_skip {α : Type} {p : α → Bool} {xs ys : List α} {i j : Nat} {x : α} (hx : xs[j]? = some x) (h1 : ys.take i = (xs.take j).filter p) (h2 : ys.drop j = xs.drop j) (hp : p x = false) :
    ys.take i = (xs.take (j + 1)).filter p ∧ ys.drop (j + 1) = xs.drop (j + 1) := by
  obtain ⟨hj, hxe⟩ := List.getElem?_eq_some_iff.1 hx
  constructor
  · rw [List.take_succ_eq_append_getElem hj, hxe, List.filter_append, ← h1]; simp [hp]
  · rw [← List.drop_drop, ← List.drop_drop, h2]
theorem kept_first {α : Type} {q : α → Bool} {xs : List α} {k : Nat} {x : α} (hx : xs[k]? = some x) (h0 : ∀ y ∈ xs.take k, q y = false) (hq : q x = true) :
    xs.take k = (xs.take (k + 1)).filter fun x => !q x := by
  obtain ⟨hj, hxe⟩ := List.getElem?_eq_some_iff.1 hx
  rw [List.take_succ_eq_append_getElem hj, hxe, List.filter_append, List.filter_eq_self.2 (fun y hy => by simp [h0 y hy])]
  simp [hq]

/-- clear at a stretch of a block. -/
theorem run_clear_any {P : Program} (w : World) (t e ty : TypeId) (z : Value) (ht : P.underlying t = some (.slice e)) (hv : ∀ w, (zeroValue e).run P w = .ok z w) (h1 : ∀ v ∈ z.cells, v.oneCell' = true) (h0 : 0 < z.cells.size) (b o n c : Nat) (hn : 0 < n)
    (hc : ∀ j, j < n * z.cells.size → (w.cell? ⟨b, o + j, none⟩).isSome = true) (hf : ∀ j, j < n * z.cells.size → w.frozen? ⟨b, o + j, none⟩ = false) :
    (Builtin.clear_ #[t] ty #[.slice (some ⟨b, o, none⟩) n c]).run P w = .ok (.tuple #[]) (w.setCells b o (Builtin.zeroCells z.cells n).toList) := by
  have hl : (Builtin.zeroCells z.cells n).toList.length = n * z.cells.size := by simp [Builtin.zeroCells]
  have hst := run_storeCells_cells (P := P) b o (Builtin.zeroCells z.cells n).toList 0 w (by rw [hl]; simpa using hc) (by rw [hl]; simpa using hf) (by
    intro v hv'
    simp only [Builtin.zeroCells, Array.toList_map, List.mem_map] at hv'
    obtain ⟨i, _, rfl⟩ := hv'
    have := Nat.mod_lt i h0
    rw [getElem!_pos z.cells _ this]
    exact h1 _ (Array.getElem_mem this))
  simp only [Nat.add_zero] at hst
  obtain ⟨m, rfl⟩ : ∃ m, n = m + 1 := ⟨n - 1, by omega⟩
  simp [Builtin.clear_, run_underlying ht, hv, hst]

theorem zeroVD : ∀ w, (zeroValue 36).run Tryz.prog w = .ok (aD zeroDeed) w := fun w => by kernel_rfl
theorem cellsD : (aD zeroDeed).cells = (cD zeroDeed).toArray := by kernel_rfl
theorem cellsD_one : ∀ v ∈ (aD zeroDeed).cells, v.oneCell' = true := by
  rw [cellsD]; intro v hv; exact cD_one zeroDeed v (by simpa using hv)

theorem wpList_store_deed {ops : Array Oper} {rest : List Oper} {op : Oper} {a : Act} {w : World} {Q : Exit → Act → World → Prop} (hgd : op.guard = none) (x y : Operand) (ho : op.op = .store 36 x y)
    (b o : Nat) (d : Deed) (hx : a.eval x = .pointer (some ⟨b, o, none⟩)) (hy : a.eval y = .agg (cD d).toArray) (ht : w.there b o 11)
    (h : wpList Tryz.prog ops Q rest (a.put op.dst undef) (w.setCells b o (cD d))) : wpList Tryz.prog ops Q (op :: rest) a w :=
  wpList_store_mid hgd 36 x y ho b o (cD d).toArray hx hy ht (by kernel_rfl) (all_oneCell_toArray (cD_one d)) h

set_option maxRecDepth 100000 in
set_option maxHeartbeats 800000 in
theorem delD_some (p : Deed → Bool) (g : Nat) (lb : Array Value) (eg : ∀ args w, (callFunc g args).run Tryz.prog w = .ok (.enter g args) w) (base b off n cap : Nat) (cur : Array Value) (xs : List Deed) (w : World) (hoff : off = 0) (hn : n ≤ 1000)
    (hb : base ≤ b) (kb : Blk w b cur 36) (hnc : n ≤ cap) (hcm : cap ≤ maxLen) (hcur : cur.size = cap * 11) (ht : cur.toList.take (n * 11) = xs.flatMap cD) (hxl : xs.length = n)
    (hp : ∀ W x, RowKit.Below base w W → Calls Tryz.prog g (#[aD x] ++ lb) W (Gives W (.bool (p x)))) :
    Calls Tryz.prog 165 #[.slice (some ⟨b, off, none⟩) n cap, .func (.func g) #[] lb] w fun e w' => ∃ v, e = .returned v ∧ w'.ownsRow base 36 11 v (xs.filter fun x => !p x).length ((xs.filter fun x => !p x).flatMap cD) ∧ RowKit.Below base w w' := by
  have hm : cap ≤ 9223372036854775807 := by unfold maxLen at hcm; omega
  have hbl := kb.lt
  have hL : Lst w 11 cD (some ⟨b, off, none⟩) n cap xs := ⟨hxl, hnc, hcm, fun i x hx => ⟨b, off, rfl, hbl, fun j u hu => by
    have hp := flat_put cD 11 (fun _ => rfl) xs i j x u hx hu
    rw [← ht] at hp
    have hj : i * 11 + j < n * 11 := by
      have := (List.getElem?_eq_some_iff.1 hp).1
      rw [List.length_take] at this; omega
    rw [List.getElem?_take_of_lt hj, Array.getElem?_toList] at hp
    rw [kb.cell, hoff, Nat.zero_add]; exact hp⟩⟩
  have hidx := indexD_any p g lb eg (some ⟨b, off, none⟩) n cap xs w hL (fun W x hW => hp W x (hW.mono (by omega)))
  clear hL
  rcases idxP_cases p xs with ⟨h1, h2⟩ | ⟨k0, x0, hx0, h1, hp0, h2⟩
  · rw [h1] at hidx
    have hf : xs.filter (fun x => !p x) = xs := List.filter_eq_self.2 (fun y hy => by simp [h2 y hy])
    rw [hf, hxl]
    have Hoff := Lib.hid hoff
    have Ht := Lib.hid ht
    have Hcur := Lib.hid hcur
    clear hf h1 h2 hp hxl ht hcur hoff
    go_enter Tryz.func165, Tryz.ntmps165
    go_wp2_with (fail)
    refine hidx.mono ?_
    clear hidx
    rintro e w2 ⟨rfl, hB2⟩
    go_wp2_with (fail)
    go_ret
    refine ⟨_, rfl, ⟨?_, .inr ⟨b, cap, cur, by rw [Hoff.out]; rfl, hb, kb.below' hB2, hnc, hcm, Hcur.out, Ht.out⟩⟩, hB2.mono (by omega)⟩
    rw [← Ht.out, List.length_take, Array.length_toList, Hcur.out]
    omega
  · rw [h1] at hidx
    have hk0 : k0 < n := by have := (List.getElem?_eq_some_iff.1 hx0).1; omega
    have hfirst := Lib.hid (kept_first hx0 h2 hp0)
    have Hp := Lib.hid hp
    have Hoff := Lib.hid hoff
    have Ht := Lib.hid ht
    have Hcur := Lib.hid hcur
    have Hxl := Lib.hid hxl
    have hne1 : ((k0 : Int) == -1) = false := beq_eq_false_iff_ne.2 (by omega)
    clear h1 h2 hp hxl ht hcur hoff hx0 hp0
    go_enter Tryz.func165, Tryz.ntmps165
    go_wp2_with (fail)
    refine hidx.mono ?_
    clear hidx
    rintro e w2 ⟨rfl, hB2⟩
    have kb2 := Lib.hid (kb.below' hB2)
    have hB0 : RowKit.Below base w w2 := hB2.mono (by omega)
    clear hB2 kb
    go_wp2_with (fail)
    go_loopw [5, 6] (fun s5 s6 wr => ∃ (i j : Nat) (ys : List Deed) (cu : Array Value), s5 = .int .i64 i ∧ s6 = .int .i64 j ∧ i < j ∧ j ≤ n ∧ Blk wr b cu 36 ∧ RowKit.Below base w wr ∧ Hid (ys.length = n ∧ ys.take i = (xs.take j).filter (fun x => !p x) ∧ ys.drop j = xs.drop j ∧ cu.size = cap * 11 ∧ cu.toList.take (n * 11) = ys.flatMap cD)) (fun _ s6 _ => n - (intOf s6).toNat)
    case atStart => exact ⟨k0, k0 + 1, xs, cur, rfl, by go_num, by omega, by omega, kb2.out, hB0, Lib.hid ⟨Hxl.out, hfirst.out, rfl, Hcur.out, Ht.out⟩⟩
    case round =>
      clear hfirst hne1 hB0 kb2 hk0
      obtain ⟨i, j, ys, cu, rfl, rfl, hij, hjn, kbr, hB, HI⟩ := hrel
      have hbr := kbr.lt
      by_cases hlt : j < n
      · obtain ⟨x, hx⟩ : ∃ x, xs[j]? = some x := ⟨xs[j]'(by rw [Hxl.out]; exact hlt), by simp⟩
        have hr : wr.rangeAt b (off + j * 11) (cD x) := fun r u hu => by
          obtain ⟨h1, h2, h3, h4, h5⟩ := HI.out
          have hy : ys[j]? = some x := by
            have e1 : (ys.drop j)[0]? = (xs.drop j)[0]? := by rw [h3]
            rw [List.getElem?_drop, List.getElem?_drop, Nat.add_zero, hx] at e1
            exact e1
          have hpp := flat_put cD 11 (fun _ => rfl) ys j r x u hy hu
          rw [← h5] at hpp
          have hj : j * 11 + r < n * 11 := by
            have := (List.getElem?_eq_some_iff.1 hpp).1
            rw [List.length_take] at this; omega
          rw [List.getElem?_take_of_lt hj, Array.getElem?_toList] at hpp
          rw [kbr.cell, Hoff.out, Nat.zero_add]; exact hpp
        obtain ⟨W, hW⟩ : ∃ W, W = wr.alloc (.cells (cD x).toArray 36) := ⟨_, rfl⟩
        have hBW : RowKit.Below base w W := hW ▸ hB.alloc (by omega) _
        have hcall := Hp.out W x hBW
        have kX : Blk W wr.heap.size (cD x).toArray 36 := hW ▸ Blk.new _ _ _
        have kbW : Blk W b cu 36 := hW ▸ kbr.alloc _
        have hX := Lib.hid hx
        have hltz : (j : Int) < (n : Int) := by omega
        have hltzi : (i : Int) < (n : Int) := by omega
        have hltni : i < n := by omega
        clear hx
        cases hq : p x with
        | false =>
          rw [hq] at hcall
          have Hq := Lib.hid hq
          clear hq
          go_wp2_with (first
            | (refine wpList_load_mid rfl 36 _ rfl b (off + j * 11) rfl (cD x) _ hr Tryz.underlying36 rfl (by kernel_rfl) ?_)
            | (refine wpList_load_mid rfl 36 _ rfl wr.heap.size 0 rfl (cD x) _ (kX.range 0 _ (fun j v h => by simpa using h)) Tryz.underlying36 rfl (by kernel_rfl) ?_)
            | (rw [← hW]; clear hW hr)
            | fail)
          refine hcall.mono ?_
          clear hcall
          rintro e w3 ⟨rfl, hB3⟩
          have hB4 : RowKit.Below base w w3 := hBW.trans (hB3.mono (by have := hBW.size; omega))
          have kX3 := kX.below' hB3
          have kb3 := kbW.below' hB3
          have hb3 := kb3.lt
          have hth : w3.there b (off + i * 11) 11 := kb3.there _ _ (by rw [HI.out.2.2.2.1, Hoff.out]; omega)
          go_wp2_with (first
            | (refine wpList_store_deed rfl (.tmp 33) (.tmp 32) rfl b (off + i * 11) x rfl rfl hth ?_; clear hth kX3)
            | (refine wpList_load_mid rfl 36 (.tmp 7) rfl wr.heap.size 0 rfl (cD x) _ (kX3.range 0 _ (fun j v h => by simpa using h)) Tryz.underlying36 rfl (by kernel_rfl) ?_)
            | fail)
          go_roundw
          case rel =>
            obtain ⟨h1, h2, h3, h4, h5⟩ := HI.out
            obtain ⟨e1, e2⟩ := kept_set hX.out (Nat.le_of_lt hij) h2 h3 (by rw [h1, Hxl.out]) (by rw [Hq.out]; rfl)
            refine ⟨i + 1, j + 1, ys.set i x, setAll cu (i * 11) (cD x), by go_num, by go_num, by omega, by omega, ?_, below_setCells hB4 hb _ _, Lib.hid ⟨by rw [List.length_set]; exact h1, e1, e2, by rw [setAll_size]; exact h4, take_setAll cD 11 (by omega) (fun _ => rfl) ys n cap i x cu h4 hnc h1 (by omega) h5⟩⟩
            have := kb3.setCells (off + i * 11) (cD x)
            rw [Hoff.out, Nat.zero_add] at this
            rw [Hoff.out, Nat.zero_add]
            exact this
          case measure => simp [intOf]; omega
        | true =>
          rw [hq] at hcall
          have Hq := Lib.hid hq
          clear hq
          go_wp2_with (first
            | (refine wpList_load_mid rfl 36 _ rfl b (off + j * 11) rfl (cD x) _ hr Tryz.underlying36 rfl (by kernel_rfl) ?_)
            | (refine wpList_load_mid rfl 36 _ rfl wr.heap.size 0 rfl (cD x) _ (kX.range 0 _ (fun j v h => by simpa using h)) Tryz.underlying36 rfl (by kernel_rfl) ?_)
            | (rw [← hW]; clear hW hr)
            | fail)
          refine hcall.mono ?_
          clear hcall
          rintro e w3 ⟨rfl, hB3⟩
          have hB4 : RowKit.Below base w w3 := hBW.trans (hB3.mono (by have := hBW.size; omega))
          have kb3 := kbW.below' hB3
          go_wp2_with (fail)
          go_roundw
          case rel =>
            obtain ⟨h1, h2, h3, h4, h5⟩ := HI.out
            obtain ⟨e1, e2⟩ := kept_skip hX.out h2 h3 (by rw [Hq.out]; rfl)
            exact ⟨i, j + 1, ys, cu, rfl, by go_num, by omega, by omega, kb3, hB4, Lib.hid ⟨h1, e1, e2, h4, h5⟩⟩
          case measure => simp [intOf]; omega
      · obtain rfl : j = n := by omega
        have hcz : (aD zeroDeed).cells.size = 11 := by kernel_rfl
        have hcl : ∀ ty, (Builtin.clear_ #[42] ty #[.slice (some ⟨b, off + i * 11, none⟩) (j - i) (cap - i)]).run Tryz.prog wr = .ok (.tuple #[]) (wr.setCells b (off + i * 11) (Builtin.zeroCells (aD zeroDeed).cells (j - i)).toList) :=
          fun ty => run_clear_any wr _ _ ty _ Tryz.underlying42 zeroVD cellsD_one (by rw [hcz]; omega) b (off + i * 11) _ _ (by omega)
            (fun t ht => by
              have hq := HI.out.2.2.2.1
              rw [hcz] at ht
              rw [kbr.cell, Array.getElem?_eq_getElem (by rw [hq, Hoff.out]; omega)]; rfl)
            (fun t ht => kbr.frozen _)
        go_wp2_with (fail)
        go_ret
        obtain ⟨h1, h2, h3, h4, h5⟩ := HI.out
        have hfl : xs.filter (fun x => !p x) = ys.take i := by rw [h2, List.take_of_length_le (by rw [Hxl.out]; exact Nat.le_refl _)]
        have hli : (ys.take i).length = i := by rw [List.length_take]; omega
        rw [hfl, hli]
        refine ⟨_, rfl, ⟨by rw [flat_len cD 11 (fun _ => rfl), hli], .inr ⟨b, cap, setAll cu (i * 11) (Builtin.zeroCells (aD zeroDeed).cells (j - i)).toList, by rw [Hoff.out]; rfl, hb, ?_, by omega, hcm, by rw [setAll_size]; exact h4, take_setAll_lo cD 11 (fun _ => rfl) ys j cap i _ cu h4 hnc (by omega) h1 h5⟩⟩, below_setCells hB hb _ _⟩
        have := kbr.setCells (off + i * 11) (Builtin.zeroCells (aD zeroDeed).cells (j - i)).toList
        rw [Hoff.out, Nat.zero_add] at this
        rw [Hoff.out, Nat.zero_add]
        exact this

set_option maxRecDepth 100000 in
set_option maxHeartbeats 800000 in
theorem delD_nil (p : Deed → Bool) (g : Nat) (lb : Array Value) (eg : ∀ args w, (callFunc g args).run Tryz.prog w = .ok (.enter g args) w) (w : World)
    (hp : ∀ W x, RowKit.Below w.heap.size w W → Calls Tryz.prog g (#[aD x] ++ lb) W (Gives W (.bool (p x)))) :
    Calls Tryz.prog 165 #[.slice none 0 0, .func (.func g) #[] lb] w fun e w' => e = .returned (.slice none 0 0) ∧ RowKit.Below w.heap.size w w' := by
  have hidx := indexD_any p g lb eg none 0 0 [] w (Lst.nil w 11 cD) hp
  rw [show idxP p [] = -1 from rfl] at hidx
  clear hp
  go_enter Tryz.func165, Tryz.ntmps165
  go_wp2_with (fail)
  refine hidx.mono ?_
  clear hidx
  rintro e w2 ⟨rfl, hB2⟩
  go_wp2_with (fail)
  go_ret
  exact ⟨rfl, hB2⟩

theorem delD_own (p : Deed → Bool) (g : Nat) (lb : Array Value) (eg : ∀ args w, (callFunc g args).run Tryz.prog w = .ok (.enter g args) w) (base n : Nat) (v : Value) (xs : List Deed) (w : World) (hn : n ≤ 1000) (hbw : base ≤ w.heap.size)
    (ho : w.ownsRow base 36 11 v n (xs.flatMap cD))
    (hp : ∀ W x, RowKit.Below base w W → Calls Tryz.prog g (#[aD x] ++ lb) W (Gives W (.bool (p x)))) :
    Calls Tryz.prog 165 #[v, .func (.func g) #[] lb] w fun e w' => ∃ v, e = .returned v ∧ w'.ownsRow base 36 11 v (xs.filter fun x => !p x).length ((xs.filter fun x => !p x).flatMap cD) ∧ RowKit.Below base w w' := by
  have hxl : xs.length = n := ownsRow_flat (enc := cD) (k := 11) (fun _ => rfl) (by omega) ho
  obtain ⟨h0, ⟨rfl, rfl⟩ | ⟨b, cap, cur, rfl, hb, hg, hnc, hcm, hcur, htk⟩⟩ := ho
  · obtain rfl := List.eq_nil_of_length_eq_zero hxl
    refine (delD_nil p g lb eg w (fun W x hW => hp W x (hW.mono hbw))).mono ?_
    rintro e w' ⟨rfl, hB⟩
    exact ⟨_, rfl, ⟨rfl, .inl ⟨rfl, rfl⟩⟩, hB.mono hbw⟩
  · exact delD_some p g lb eg base b 0 n cap cur xs w rfl hn hb hg hnc hcm hcur htk hxl hp

set_option maxRecDepth 100000 in
theorem only1_any (x : Deed) (a : Option Addr) (n cap : Nat) (ids : List Int) (B : Nat) (w : World) (hc : w.cell? ⟨B, 0, none⟩ = some (.slice a n cap)) (hL : Lst w 1 cI a n cap ids) :
    Calls Tryz.prog 166 #[aD x, .pointer (some ⟨B, 0, none⟩)] w (Gives w (.bool (!ids.contains x.id))) := by
  obtain ⟨W, hW⟩ : ∃ W, W = w.alloc (.cells (cD x).toArray 36) := ⟨_, rfl⟩
  have hB : RowKit.Below w.heap.size w W := hW ▸ (Below.refl _ w).alloc (Nat.le_refl _) _
  have kX : Blk W w.heap.size (cD x).toArray 36 := hW ▸ Blk.new _ _ _
  have cB : W.cell? ⟨B, 0, none⟩ = some (.slice a n cap) := hW ▸ cell_allocs hc _
  have hct := containsI_any a n cap ids x.id W (hL.below hB)
  generalize ids.contains x.id = q at *
  have cX := kX.cell
  clear hc hL
  go_enter Tryz.func166, Tryz.ntmps166
  go_upto_region 1 with fail
  rw [← hW]; clear hW
  go_wp2_with (fail)
  refine hct.mono ?_
  clear hct
  rintro e w3 ⟨rfl, rfl⟩
  go_wp2_with (fail)
  go_ret
  exact ⟨by first | rfl | simp, hB⟩

set_option maxRecDepth 100000 in
theorem only_any (a : Option Addr) (n cap : Nat) (xs : List Deed) (a2 : Option Addr) (n2 c2 : Nat) (ids : List Int) (w : World) (hn : n ≤ 1000) (hL : Lst w 11 cD a n cap xs) (hI : Lst w 1 cI a2 n2 c2 ids) :
    Calls Tryz.prog 123 #[.slice a n cap, .slice a2 n2 c2] w fun e w' => ∃ v, e = .returned v ∧ w'.ownsRow w.heap.size 36 11 v (onlyD xs ids).length ((onlyD xs ids).flatMap cD) ∧ RowKit.Below w.heap.size w w' := by
  obtain ⟨W, hW⟩ : ∃ W, W = w.alloc (.cells #[.slice a2 n2 c2] 30) := ⟨_, rfl⟩
  have hB : RowKit.Below w.heap.size w W := hW ▸ (Below.refl _ w).alloc (Nat.le_refl _) _
  have kI : Blk W w.heap.size #[.slice a2 n2 c2] 30 := hW ▸ Blk.new _ _ _
  have hsW : W.heap.size = w.heap.size + 1 := by rw [hW]; simp
  have hcl := cloneD0_any a n cap xs W hn (hL.below hB)
  have hI' := hI.below hB
  have eg : ∀ args w, (callFunc 166 args).run Tryz.prog w = .ok (.enter 166 args) w := enters_of Tryz.func166 (by kernel_rfl) rfl
  have hmf : ∀ (fn : Fn) (first cap : Array Value) (w : World), (Instr.makeFunc fn first cap).run Tryz.prog w = .ok (.func fn first cap) w := fun _ _ _ _ => rfl
  have hfl : onlyD xs ids = xs.filter fun x => !(!ids.contains x.id) := by unfold onlyD; simp
  rw [hfl]
  clear hL hI hfl
  go_enter Tryz.func123, Tryz.ntmps123
  go_upto_region 1 with fail
  rw [← hW]; clear hW
  go_wp2_with (fail)
  refine hcl.mono ?_
  clear hcl
  rintro e w2 ⟨v, rfl, ho, hB2⟩
  have hdl := delD_own (fun x => !ids.contains x.id) 166 #[.pointer (some ⟨w.heap.size, 0, none⟩)] eg W.heap.size n v xs w2 hn hB2.size ho (fun W' x hW' => by
    have hBB := hB2.trans hW'
    refine only1_any x a2 n2 c2 ids w.heap.size W' ?_ (hI'.below hBB)
    have := (kI.below' hBB).cell 0
    simpa using this)
  go_wp2_with (fail)
  refine hdl.mono ?_
  clear hdl
  rintro e w3 ⟨v3, rfl, ho3, hB3⟩
  go_wp2_with (fail)
  go_ret
  exact ⟨v3, rfl, ownsRow_base_a ho3 hB.size, hB.trans ((hB2.trans hB3).mono hB.size)⟩

end Go.Proofs.YtmeomhojbobpbaaGreatDoor
