import Derived.Test.YtmeomhojbobpbaaGreatDoorPart21
import Derived.Test.YtmeomhojbobpbaaGreatDoorPart13
/-
  Walks: operations on fractions behind their guard (claim.done); Add, Sub, Mul.
-/
namespace Go.Proofs.YtmeomhojbobpbaaGreatDoor
open Go.RowKit Lg Go.Sort Go.Shelf

theorem Blk.nw3 (W : World) (o p q : Obj) (t : TypeId) (cs : Array Value) : Blk ((((W.alloc o).alloc p).alloc q).alloc (.cells cs t)) (W.heap.size + 1 + 1 + 1) cs t := by
  have := Blk.new (((W.alloc o).alloc p).alloc q) t cs
  rwa [show (((W.alloc o).alloc p).alloc q).heap.size = W.heap.size + 1 + 1 + 1 by simp] at this

theorem Lst.twoF {w : World} {B : Nat} {a b : Frac} (h : Blk w B #[.int .i64 a.num, .int .i64 a.den, .int .i64 b.num, .int .i64 b.den] 25) : Lst w 2 cF (some ⟨B, 0, none⟩) 2 2 [a, b] :=
  ⟨rfl, Nat.le_refl _, by unfold maxLen; omega, fun i y hy => by
    have hi : i < 2 := by have := (List.getElem?_eq_some_iff.1 hy).1; simpa using this
    refine ⟨B, 0, rfl, h.lt, fun j v hv => ?_⟩
    have hj : j < 2 := by have := (List.getElem?_eq_some_iff.1 hv).1; simpa [cF] using this
    have := h.cell (i * 2 + j)
    simp only [Nat.zero_add]
    rw [this]
    have h1 : i = 0 ∨ i = 1 := by omega
    have h2 : j = 0 ∨ j = 1 := by omega
    rcases h1 with rfl | rfl <;> rcases h2 with rfl | rfl <;> (cases hy; simpa [cF] using hv)⟩

abbrev Ent (F : Nat) : Prop := ∀ args w, (callFunc F args).run Tryz.prog w = .ok (.enter F args) w

set_option maxRecDepth 100000 in
set_option maxHeartbeats 1600000 in
theorem done1_ok (F : Nat) (a b c : Frac) (Bf Bb Br : Nat) (w : World) (eF : Ent F) (hf : Blk w Bf #[.func (.func F) #[aF a] #[]] 85) (hb : Blk w Bb #[.int .i64 b.num, .int .i64 b.den] 25) (hr : Blk w Br #[.int .i64 0, .int .i64 0] 25) (hc : ∀ W, Calls Tryz.prog F #[aF a, aF b] W (Gives W (aF c))) :
    Calls Tryz.prog 148 #[.pointer (some ⟨Bf, 0, none⟩), .pointer (some ⟨Bb, 0, none⟩), .pointer (some ⟨Br, 0, none⟩)] w fun e w' => e = .returned (.tuple #[]) ∧ Blk w' Br #[.int .i64 c.num, .int .i64 c.den] 25 ∧ w.grownBy w' (some Br) := by
  have c1 := hf.cell
  have c2 := hb.cell
  go_enter Tryz.func148, Tryz.ntmps148
  go_wp2_with (fail)
  refine (hc _).mono ?_
  clear hc
  rintro e w2 ⟨rfl, hB⟩
  have k := hr.below' hB
  have c3 := k.cell
  have f3 := k.frozen
  clear c1 c2
  go_wp2_with (fail)
  go_end0
  refine ⟨rfl, (k.setCell 0 _).setCell 1 _, ?_⟩
  exact grown_trans (grown_of_below _ hB) (grownBy_setCells w2 Br 0 [.int .i64 c.num, .int .i64 c.den])

set_option maxRecDepth 100000 in
set_option maxHeartbeats 1600000 in
theorem done1_up (F : Nat) (a b : Frac) (Bf Bb Br : Nat) (w : World) (eF : Ent F) (hf : Blk w Bf #[.func (.func F) #[aF a] #[]] 85) (hb : Blk w Bb #[.int .i64 b.num, .int .i64 b.den] 25) (hc : ∀ W, Calls Tryz.prog F #[aF a, aF b] W fun e w' => e = .panicked [{ v := upV, recovered := false }] ∧ RowKit.Below W.heap.size W w') :
    Calls Tryz.prog 148 #[.pointer (some ⟨Bf, 0, none⟩), .pointer (some ⟨Bb, 0, none⟩), .pointer (some ⟨Br, 0, none⟩)] w fun e w' => e = .panicked [{ v := upV, recovered := false }] ∧ RowKit.Below w.heap.size w w' := by
  have c1 := hf.cell
  have c2 := hb.cell
  go_enter Tryz.func148, Tryz.ntmps148
  go_wp2_with (fail)
  refine (hc _).mono ?_
  clear hc
  rintro e w2 ⟨rfl, hB⟩
  exact ⟨rfl, rfl, hB⟩

set_option maxRecDepth 100000 in
set_option maxHeartbeats 3200000 in
theorem done_ok (F : Nat) (a b c : Frac) (w : World) (eF : Ent F) (hc : ∀ W, Calls Tryz.prog F #[aF a, aF b] W (Gives W (aF c))) (hv : (validF a && validF b) = true) :
    Calls Tryz.prog 92 #[aF a, aF b, .func (.func F) #[aF a] #[]] w (Gives w (.tuple #[aF c, .int .i64 0])) := by
  have eg : ∀ args w, (callFunc 148 args).run Tryz.prog w = .ok (.enter 148 args) w := enters_of Tryz.func148 (by kernel_rfl) rfl
  have hmf : ∀ (fn : Fn) (first cap : Array Value) (w : World), (Instr.makeFunc fn first cap).run Tryz.prog w = .ok (.func fn first cap) w := fun _ _ _ _ => rfl
  obtain ⟨w0, hw0⟩ : ∃ w0, w0 = (((w.alloc (.cells #[.int .i64 a.num, .int .i64 a.den] 25)).alloc (.cells #[.int .i64 b.num, .int .i64 b.den] 25)).alloc (.cells #[.func (.func F) #[aF a] #[]] 85)).alloc (.cells #[.int .i64 0, .int .i64 0] 25) := ⟨_, rfl⟩
  have k4 : Blk w0 (w.heap.size + 1) #[.int .i64 b.num, .int .i64 b.den] 25 := hw0 ▸ ((Blk.nw1 w _ _ _).alloc _).alloc _
  have k3 : Blk w0 w.heap.size #[.int .i64 a.num, .int .i64 a.den] 25 := hw0 ▸ (((Blk.new w _ _).alloc _).alloc _).alloc _
  have k5 : Blk w0 (w.heap.size + 1 + 1) #[.func (.func F) #[aF a] #[]] 85 := hw0 ▸ (Blk.nw2 w _ _ _ _).alloc _
  have k6 : Blk w0 (w.heap.size + 1 + 1 + 1) #[.int .i64 0, .int .i64 0] 25 := hw0 ▸ Blk.nw3 w _ _ _ _ _
  have hB : RowKit.Below w.heap.size w w0 := hw0 ▸ ((((Below.refl _ w).alloc (Nat.le_refl _) _).alloc (by simp) _).alloc (by simp; omega) _).alloc (by simp; omega) _
  go_enter Tryz.func92, Tryz.ntmps92
  go_upto_region 1 with fail
  rw [← hw0]
  clear hw0
  obtain ⟨x3, hx3⟩ : ∃ b, b = w.heap.size := ⟨_, rfl⟩
  obtain ⟨x4, hx4⟩ : ∃ b, b = w.heap.size + 1 := ⟨_, rfl⟩
  obtain ⟨x5, hx5⟩ : ∃ b, b = w.heap.size + 1 + 1 := ⟨_, rfl⟩
  obtain ⟨x6, hx6⟩ : ∃ b, b = w.heap.size + 1 + 1 + 1 := ⟨_, rfl⟩
  rw [← hx6] at k6 ⊢
  rw [← hx5] at k5 ⊢
  rw [← hx4] at k4 ⊢
  rw [← hx3] at k3 ⊢
  have hx6l : w.heap.size ≤ x6 := by omega
  clear hx3 hx4 hx5 hx6
  have c3 := k3.cell
  have c4 := k4.cell
  obtain ⟨w1, hw1⟩ : ∃ w1, w1 = w0.alloc (.cells #[.int .i64 a.num, .int .i64 a.den, .int .i64 b.num, .int .i64 b.den] 25) := ⟨_, rfl⟩
  have hva := valid_any (some ⟨w0.heap.size, 0, none⟩) 2 2 [a, b] w1 (Lst.twoF (hw1 ▸ Blk.new w0 _ _))
  have hb1 : RowKit.Below w0.heap.size w0 w1 := hw1 ▸ (Below.refl _ w0).alloc (Nat.le_refl _) _
  rw [show (!([a, b].any fun f => !validF f)) = true from by rw [← hv]; simp [Bool.not_or]] at hva
  rw [hw1] at hva
  clear hv
  go_wp2_with (fail)
  refine hva.mono ?_
  clear hva
  rintro e w2 ⟨rfl, hB2⟩
  rw [← hw1] at hB2
  clear hw1 c3 c4
  have hb2 := hb1.trans (hB2.mono hb1.size)
  have k4 := k4.below' hb2
  have k5 := k5.below' hb2
  have k6 := k6.below' hb2
  have hB := hB.trans (hb2.mono hB.size)
  clear k3 hb1 hb2 hB2
  have l6 := k6.lt
  have hr := ranged_ok 148 #[.pointer (some ⟨x5, 0, none⟩), .pointer (some ⟨x4, 0, none⟩), .pointer (some ⟨x6, 0, none⟩)] eg w2 (fun w' => Blk w' x6 #[.int .i64 c.num, .int .i64 c.den] 25 ∧ (w2.alloc (.cells #[.int .i64 0] 26)).grownBy w' (some x6)) (by
    refine (done1_ok F a b c x5 x4 x6 (w2.alloc (.cells #[.int .i64 0] 26)) eF (k5.alloc _) (k4.alloc _) (k6.alloc _) hc).mono ?_
    rintro e w' ⟨rfl, h1, h2⟩
    exact ⟨rfl, (Blk.new w2 _ _).kept h2 (by simp; omega), h1, h2⟩)
  go_wp2_with (fail)
  refine hr.mono ?_
  clear hr hc
  rintro e w5 ⟨rfl, w4, ⟨kS4, hg4⟩, rfl⟩
  have hb4 : RowKit.Below w.heap.size w w4 := (hB.alloc hB.size (.cells #[.int .i64 0] 26)).grown hg4 (by have := hB.size; simp; omega) (fun k e => by cases e; omega)
  have hB1 := hB.size
  obtain ⟨w5, hw5⟩ : ∃ w5, w5 = w4.setCell ⟨w2.heap.size, 0, none⟩ (.int .i64 0) := ⟨_, rfl⟩
  rw [← hw5]
  have k65 : Blk w5 x6 #[.int .i64 c.num, .int .i64 c.den] 25 := hw5 ▸ kS4.setCell_other (by omega) 0 _
  have hb5 : RowKit.Below w.heap.size w w5 := hw5 ▸ hb4.setCell (p := ⟨w2.heap.size, 0, none⟩) (by simp; omega) _
  clear hw5 kS4 k4 k5 k6 hB hb4
  have c6 := k65.cell
  have f6 := k65.frozen
  go_wp2_with (fail)
  have hbl : Blk (w5.setCells x6 0 (cF c)) x6 (cF c).toArray 25 := by
    have h := k65.setCells 0 (cF c)
    have e : setAll #[.int .i64 c.num, .int .i64 c.den] 0 (cF c) = (cF c).toArray := by kernel_rfl
    rw [e] at h
    exact h
  (try simp only [Exit.inBlock, Exit.then])
  first
    | (refine bodyPost_ret (results_cell_tmp rfl _ (w5.setCells x6 0 (cF c)) x6 25 (cF c) _ rfl hbl Tryz.underlying25 rfl (by kernel_rfl)) rfl ?_
       exact ⟨rfl, below_setCells hb5 hx6l 0 (cF c)⟩)
    | (refine bodyPost_ret (results_cell_tmp rfl _ w5 x6 25 (cF c) _ rfl k65 Tryz.underlying25 rfl (by kernel_rfl)) rfl ?_
       exact ⟨rfl, hb5⟩)

set_option maxRecDepth 100000 in
set_option maxHeartbeats 3200000 in
theorem done_up (F : Nat) (a b : Frac) (w : World) (eF : Ent F) (hc : ∀ W, Calls Tryz.prog F #[aF a, aF b] W fun e w' => e = .panicked [{ v := upV, recovered := false }] ∧ RowKit.Below W.heap.size W w') (hv : (validF a && validF b) = true) :
    Calls Tryz.prog 92 #[aF a, aF b, .func (.func F) #[aF a] #[]] w (Gives w (.tuple #[aF ⟨0, 0⟩, .int .i64 2])) := by
  have eg : ∀ args w, (callFunc 148 args).run Tryz.prog w = .ok (.enter 148 args) w := enters_of Tryz.func148 (by kernel_rfl) rfl
  have hmf : ∀ (fn : Fn) (first cap : Array Value) (w : World), (Instr.makeFunc fn first cap).run Tryz.prog w = .ok (.func fn first cap) w := fun _ _ _ _ => rfl
  obtain ⟨w0, hw0⟩ : ∃ w0, w0 = (((w.alloc (.cells #[.int .i64 a.num, .int .i64 a.den] 25)).alloc (.cells #[.int .i64 b.num, .int .i64 b.den] 25)).alloc (.cells #[.func (.func F) #[aF a] #[]] 85)).alloc (.cells #[.int .i64 0, .int .i64 0] 25) := ⟨_, rfl⟩
  have k4 : Blk w0 (w.heap.size + 1) #[.int .i64 b.num, .int .i64 b.den] 25 := hw0 ▸ ((Blk.nw1 w _ _ _).alloc _).alloc _
  have k3 : Blk w0 w.heap.size #[.int .i64 a.num, .int .i64 a.den] 25 := hw0 ▸ (((Blk.new w _ _).alloc _).alloc _).alloc _
  have k5 : Blk w0 (w.heap.size + 1 + 1) #[.func (.func F) #[aF a] #[]] 85 := hw0 ▸ (Blk.nw2 w _ _ _ _).alloc _
  have k6 : Blk w0 (w.heap.size + 1 + 1 + 1) #[.int .i64 0, .int .i64 0] 25 := hw0 ▸ Blk.nw3 w _ _ _ _ _
  have hB : RowKit.Below w.heap.size w w0 := hw0 ▸ ((((Below.refl _ w).alloc (Nat.le_refl _) _).alloc (by simp) _).alloc (by simp; omega) _).alloc (by simp; omega) _
  go_enter Tryz.func92, Tryz.ntmps92
  go_upto_region 1 with fail
  rw [← hw0]
  clear hw0
  obtain ⟨x3, hx3⟩ : ∃ b, b = w.heap.size := ⟨_, rfl⟩
  obtain ⟨x4, hx4⟩ : ∃ b, b = w.heap.size + 1 := ⟨_, rfl⟩
  obtain ⟨x5, hx5⟩ : ∃ b, b = w.heap.size + 1 + 1 := ⟨_, rfl⟩
  obtain ⟨x6, hx6⟩ : ∃ b, b = w.heap.size + 1 + 1 + 1 := ⟨_, rfl⟩
  rw [← hx6] at k6 ⊢
  rw [← hx5] at k5 ⊢
  rw [← hx4] at k4 ⊢
  rw [← hx3] at k3 ⊢
  have hx6l : w.heap.size ≤ x6 := by omega
  clear hx3 hx4 hx5 hx6
  have c3 := k3.cell
  have c4 := k4.cell
  obtain ⟨w1, hw1⟩ : ∃ w1, w1 = w0.alloc (.cells #[.int .i64 a.num, .int .i64 a.den, .int .i64 b.num, .int .i64 b.den] 25) := ⟨_, rfl⟩
  have hva := valid_any (some ⟨w0.heap.size, 0, none⟩) 2 2 [a, b] w1 (Lst.twoF (hw1 ▸ Blk.new w0 _ _))
  have hb1 : RowKit.Below w0.heap.size w0 w1 := hw1 ▸ (Below.refl _ w0).alloc (Nat.le_refl _) _
  rw [show (!([a, b].any fun f => !validF f)) = true from by rw [← hv]; simp [Bool.not_or]] at hva
  rw [hw1] at hva
  clear hv
  go_wp2_with (fail)
  refine hva.mono ?_
  clear hva
  rintro e w2 ⟨rfl, hB2⟩
  rw [← hw1] at hB2
  clear hw1 c3 c4
  have hb2 := hb1.trans (hB2.mono hb1.size)
  have k4 := k4.below' hb2
  have k5 := k5.below' hb2
  have k6 := k6.below' hb2
  have hB := hB.trans (hb2.mono hB.size)
  clear k3 hb1 hb2 hB2
  have l6 := k6.lt
  have hr := ranged_up 148 #[.pointer (some ⟨x5, 0, none⟩), .pointer (some ⟨x4, 0, none⟩), .pointer (some ⟨x6, 0, none⟩)] eg w2 (fun w' => RowKit.Below (w2.alloc (.cells #[.int .i64 0] 26)).heap.size (w2.alloc (.cells #[.int .i64 0] 26)) w') (by
    refine (done1_up F a b x5 x4 x6 (w2.alloc (.cells #[.int .i64 0] 26)) eF (k5.alloc _) (k4.alloc _) hc).mono ?_
    rintro e w' ⟨rfl, h2⟩
    exact ⟨rfl, (Blk.new w2 _ _).below' h2, h2⟩)
  go_wp2_with (fail)
  refine hr.mono ?_
  clear hr hc
  rintro e w5 ⟨rfl, w4, hg4, rfl⟩
  have kS4 := (k6.alloc (.cells #[.int .i64 0] 26)).below' hg4
  have hb4 : RowKit.Below w.heap.size w w4 := (hB.alloc hB.size (.cells #[.int .i64 0] 26)).trans (hg4.mono (by have := hB.size; simp; omega))
  have hB1 := hB.size
  have hsz4 := hg4.size
  obtain ⟨w5, hw5⟩ : ∃ w5, w5 = (w4.alloc (.cells #[] 149)).setCell ⟨w2.heap.size, 0, none⟩ (.int .i64 2) := ⟨_, rfl⟩
  rw [← hw5]
  have k65 : Blk w5 x6 #[.int .i64 0, .int .i64 0] 25 := hw5 ▸ (kS4.alloc _).setCell_other (by omega) 0 _
  have hb5 : RowKit.Below w.heap.size w w5 := hw5 ▸ (hb4.alloc hb4.size _).setCell (p := ⟨w2.heap.size, 0, none⟩) (by simp; omega) _
  clear hw5 kS4 k4 k5 k6 hB hb4
  have c6 := k65.cell
  have f6 := k65.frozen
  go_wp2_with (fail)
  have hbl : Blk (w5.setCells x6 0 (cF ⟨0, 0⟩)) x6 (cF ⟨0, 0⟩).toArray 25 := by
    have h := k65.setCells 0 (cF ⟨0, 0⟩)
    have e : setAll #[.int .i64 0, .int .i64 0] 0 (cF ⟨0, 0⟩) = (cF ⟨0, 0⟩).toArray := by kernel_rfl
    rw [e] at h
    exact h
  (try simp only [Exit.inBlock, Exit.then])
  first
    | (refine bodyPost_ret (results_cell_tmp rfl _ (w5.setCells x6 0 (cF ⟨0, 0⟩)) x6 25 (cF ⟨0, 0⟩) _ rfl hbl Tryz.underlying25 rfl (by kernel_rfl)) rfl ?_
       exact ⟨rfl, below_setCells hb5 hx6l 0 (cF ⟨0, 0⟩)⟩)
    | (refine bodyPost_ret (results_cell_tmp rfl _ w5 x6 25 (cF ⟨0, 0⟩) _ rfl k65 Tryz.underlying25 rfl (by kernel_rfl)) rfl ?_
       exact ⟨rfl, hb5⟩)

set_option maxRecDepth 100000 in
set_option maxHeartbeats 3200000 in
theorem done_bad (F : Nat) (a b : Frac) (w : World) (hv : (validF a && validF b) = false) :
    Calls Tryz.prog 92 #[aF a, aF b, .func (.func F) #[aF a] #[]] w (Gives w (.tuple #[aF ⟨0, 0⟩, .int .i64 1])) := by
  have eg : ∀ args w, (callFunc 148 args).run Tryz.prog w = .ok (.enter 148 args) w := enters_of Tryz.func148 (by kernel_rfl) rfl
  have hmf : ∀ (fn : Fn) (first cap : Array Value) (w : World), (Instr.makeFunc fn first cap).run Tryz.prog w = .ok (.func fn first cap) w := fun _ _ _ _ => rfl
  obtain ⟨w0, hw0⟩ : ∃ w0, w0 = (((w.alloc (.cells #[.int .i64 a.num, .int .i64 a.den] 25)).alloc (.cells #[.int .i64 b.num, .int .i64 b.den] 25)).alloc (.cells #[.func (.func F) #[aF a] #[]] 85)).alloc (.cells #[.int .i64 0, .int .i64 0] 25) := ⟨_, rfl⟩
  have k4 : Blk w0 (w.heap.size + 1) #[.int .i64 b.num, .int .i64 b.den] 25 := hw0 ▸ ((Blk.nw1 w _ _ _).alloc _).alloc _
  have k3 : Blk w0 w.heap.size #[.int .i64 a.num, .int .i64 a.den] 25 := hw0 ▸ (((Blk.new w _ _).alloc _).alloc _).alloc _
  have k5 : Blk w0 (w.heap.size + 1 + 1) #[.func (.func F) #[aF a] #[]] 85 := hw0 ▸ (Blk.nw2 w _ _ _ _).alloc _
  have k6 : Blk w0 (w.heap.size + 1 + 1 + 1) #[.int .i64 0, .int .i64 0] 25 := hw0 ▸ Blk.nw3 w _ _ _ _ _
  have hB : RowKit.Below w.heap.size w w0 := hw0 ▸ ((((Below.refl _ w).alloc (Nat.le_refl _) _).alloc (by simp) _).alloc (by simp; omega) _).alloc (by simp; omega) _
  go_enter Tryz.func92, Tryz.ntmps92
  go_upto_region 1 with fail
  rw [← hw0]
  clear hw0
  obtain ⟨x3, hx3⟩ : ∃ b, b = w.heap.size := ⟨_, rfl⟩
  obtain ⟨x4, hx4⟩ : ∃ b, b = w.heap.size + 1 := ⟨_, rfl⟩
  obtain ⟨x5, hx5⟩ : ∃ b, b = w.heap.size + 1 + 1 := ⟨_, rfl⟩
  obtain ⟨x6, hx6⟩ : ∃ b, b = w.heap.size + 1 + 1 + 1 := ⟨_, rfl⟩
  rw [← hx6] at k6 ⊢
  rw [← hx5] at k5 ⊢
  rw [← hx4] at k4 ⊢
  rw [← hx3] at k3 ⊢
  have hx6l : w.heap.size ≤ x6 := by omega
  clear hx3 hx4 hx5 hx6
  have c3 := k3.cell
  have c4 := k4.cell
  obtain ⟨w1, hw1⟩ : ∃ w1, w1 = w0.alloc (.cells #[.int .i64 a.num, .int .i64 a.den, .int .i64 b.num, .int .i64 b.den] 25) := ⟨_, rfl⟩
  have hva := valid_any (some ⟨w0.heap.size, 0, none⟩) 2 2 [a, b] w1 (Lst.twoF (hw1 ▸ Blk.new w0 _ _))
  have hb1 : RowKit.Below w0.heap.size w0 w1 := hw1 ▸ (Below.refl _ w0).alloc (Nat.le_refl _) _
  rw [show (!([a, b].any fun f => !validF f)) = false from by rw [← hv]; simp [Bool.not_or]] at hva
  rw [hw1] at hva
  clear hv
  go_wp2_with (fail)
  refine hva.mono ?_
  clear hva
  rintro e w2 ⟨rfl, hB2⟩
  rw [← hw1] at hB2
  clear hw1 c3 c4
  have hb2 := hb1.trans (hB2.mono hb1.size)
  have k4 := k4.below' hb2
  have k5 := k5.below' hb2
  have k6 := k6.below' hb2
  have hB := hB.trans (hb2.mono hB.size)
  clear k3 hb1 hb2 hB2
  have l6 := k6.lt
  have k65 := k6
  have hb5 := hB
  obtain ⟨w5, hw5⟩ : ∃ w5, w5 = w2 := ⟨_, rfl⟩
  rw [← hw5] at k65 hb5 ⊢
  clear hw5 k4 k5 k6 hB
  have c6 := k65.cell
  have f6 := k65.frozen
  go_wp2_with (fail)
  have hbl : Blk (w5.setCells x6 0 (cF ⟨0, 0⟩)) x6 (cF ⟨0, 0⟩).toArray 25 := by
    have h := k65.setCells 0 (cF ⟨0, 0⟩)
    have e : setAll #[.int .i64 0, .int .i64 0] 0 (cF ⟨0, 0⟩) = (cF ⟨0, 0⟩).toArray := by kernel_rfl
    rw [e] at h
    exact h
  (try simp only [Exit.inBlock, Exit.then])
  first
    | (refine bodyPost_ret (results_cell_tmp rfl _ (w5.setCells x6 0 (cF ⟨0, 0⟩)) x6 25 (cF ⟨0, 0⟩) _ rfl hbl Tryz.underlying25 rfl (by kernel_rfl)) rfl ?_
       exact ⟨rfl, below_setCells hb5 hx6l 0 (cF ⟨0, 0⟩)⟩)
    | (refine bodyPost_ret (results_cell_tmp rfl _ w5 x6 25 (cF ⟨0, 0⟩) _ rfl k65 Tryz.underlying25 rfl (by kernel_rfl)) rfl ?_
       exact ⟨rfl, hb5⟩)

/-- claim.Add, whatever it is handed. -/
def addO (a b : Frac) : Frac × Int := if validF a && validF b then (match plusO a b with | some c => (c, 0) | none => (⟨0, 0⟩, 2)) else (⟨0, 0⟩, 1)

set_option maxRecDepth 100000 in
set_option maxHeartbeats 1600000 in
theorem addD_any (a b : Frac) (w : World) : Calls Tryz.prog 31 #[aF a, aF b] w (Gives w (.tuple #[aF (addO a b).1, .int .i64 (addO a b).2])) := by
  have eF : Ent 69 := enters_of Tryz.func69 (by kernel_rfl) rfl
  have hmf : ∀ (fn : Fn) (first cap : Array Value) (w : World), (Instr.makeFunc fn first cap).run Tryz.prog w = .ok (.func fn first cap) w := fun _ _ _ _ => rfl
  have hd : ∀ W, Calls Tryz.prog 92 #[aF a, aF b, .func (.func 69) #[aF a] #[]] W (Gives W (.tuple #[aF (addO a b).1, .int .i64 (addO a b).2])) := by
    intro W
    unfold addO
    cases hv : validF a && validF b with
    | false => simpa using done_bad 69 a b W hv
    | true =>
      have hv' := hv
      rw [Bool.and_eq_true] at hv'
      have ha := validF_ok hv'.1
      have hb := validF_ok hv'.2
      cases hp : plusO a b with
      | none => simpa using done_up 69 a b W eF (fun W => plusO_up a b W ha hb hp) hv
      | some c => simpa using done_ok 69 a b c W eF (fun W => plusO_ok a b c W ha hb hp) hv
  obtain ⟨⟨p, q⟩, hr⟩ : ∃ r, r = addO a b := ⟨_, rfl⟩
  rw [← hr] at hd ⊢
  clear hr
  dsimp only at hd ⊢
  have hB : RowKit.Below w.heap.size w (((w.alloc (.cells #[.int .i64 a.num, .int .i64 a.den] 25)).alloc (.cells #[.int .i64 b.num, .int .i64 b.den] 25)).alloc (.cells #[.int .i64 0, .int .i64 0] 25)) := (((Below.refl _ w).alloc (Nat.le_refl _) _).alloc (by simp) _).alloc (by simp; omega) _
  have k4 := Blk.nw2 w (.cells #[.int .i64 a.num, .int .i64 a.den] 25) (.cells #[.int .i64 b.num, .int .i64 b.den] 25) 25 #[.int .i64 0, .int .i64 0]
  go_enter Tryz.func31, Tryz.ntmps31
  go_wp2_with (fail)
  refine (hd _).mono ?_
  clear hd
  rintro e w5 ⟨rfl, hB2⟩
  have k65 := k4.below' hB2
  have hb5 := hB.trans (hB2.mono hB.size)
  clear k4 hB hB2
  have c6 := k65.cell
  have f6 := k65.frozen
  go_wp2_with (fail)
  have hbl : Blk (w5.setCells (w.heap.size + 1 + 1) 0 (cF p)) (w.heap.size + 1 + 1) (cF p).toArray 25 := by
    have h := k65.setCells 0 (cF p)
    have e : setAll #[.int .i64 0, .int .i64 0] 0 (cF p) = (cF p).toArray := by kernel_rfl
    rw [e] at h
    exact h
  (try simp only [Exit.inBlock, Exit.then])
  refine bodyPost_ret (results_cell_tmp rfl _ (w5.setCells (w.heap.size + 1 + 1) 0 (cF p)) (w.heap.size + 1 + 1) 25 (cF p) _ rfl hbl Tryz.underlying25 rfl (by kernel_rfl)) rfl ?_
  exact ⟨rfl, below_setCells hb5 (show w.heap.size ≤ w.heap.size + 1 + 1 by omega) 0 (cF p)⟩

/-- claim.Sub, whatever it is handed. -/
def subO (a b : Frac) : Frac × Int := if validF a && validF b then (match plusO a (negF b) with | some c => (c, 0) | none => (⟨0, 0⟩, 2)) else (⟨0, 0⟩, 1)

set_option maxRecDepth 100000 in
set_option maxHeartbeats 1600000 in
theorem subD_any (a b : Frac) (w : World) : Calls Tryz.prog 34 #[aF a, aF b] w (Gives w (.tuple #[aF (subO a b).1, .int .i64 (subO a b).2])) := by
  have eF : Ent 95 := enters_of Tryz.func95 (by kernel_rfl) rfl
  have hmf : ∀ (fn : Fn) (first cap : Array Value) (w : World), (Instr.makeFunc fn first cap).run Tryz.prog w = .ok (.func fn first cap) w := fun _ _ _ _ => rfl
  have hd : ∀ W, Calls Tryz.prog 92 #[aF a, aF b, .func (.func 95) #[aF a] #[]] W (Gives W (.tuple #[aF (subO a b).1, .int .i64 (subO a b).2])) := by
    intro W
    unfold subO
    cases hv : validF a && validF b with
    | false => simpa using done_bad 95 a b W hv
    | true =>
      have hv' := hv
      rw [Bool.and_eq_true] at hv'
      have ha := validF_ok hv'.1
      have hb := validF_ok hv'.2
      cases hp : plusO a (negF b) with
      | none => simpa using done_up 95 a b W eF (fun W => minusO_up a b W ha hb hp) hv
      | some c => simpa using done_ok 95 a b c W eF (fun W => minusO_ok a b c W ha hb hp) hv
  obtain ⟨⟨p, q⟩, hr⟩ : ∃ r, r = subO a b := ⟨_, rfl⟩
  rw [← hr] at hd ⊢
  clear hr
  dsimp only at hd ⊢
  have hB : RowKit.Below w.heap.size w (((w.alloc (.cells #[.int .i64 a.num, .int .i64 a.den] 25)).alloc (.cells #[.int .i64 b.num, .int .i64 b.den] 25)).alloc (.cells #[.int .i64 0, .int .i64 0] 25)) := (((Below.refl _ w).alloc (Nat.le_refl _) _).alloc (by simp) _).alloc (by simp; omega) _
  have k4 := Blk.nw2 w (.cells #[.int .i64 a.num, .int .i64 a.den] 25) (.cells #[.int .i64 b.num, .int .i64 b.den] 25) 25 #[.int .i64 0, .int .i64 0]
  go_enter Tryz.func34, Tryz.ntmps34
  go_wp2_with (fail)
  refine (hd _).mono ?_
  clear hd
  rintro e w5 ⟨rfl, hB2⟩
  have k65 := k4.below' hB2
  have hb5 := hB.trans (hB2.mono hB.size)
  clear k4 hB hB2
  have c6 := k65.cell
  have f6 := k65.frozen
  go_wp2_with (fail)
  have hbl : Blk (w5.setCells (w.heap.size + 1 + 1) 0 (cF p)) (w.heap.size + 1 + 1) (cF p).toArray 25 := by
    have h := k65.setCells 0 (cF p)
    have e : setAll #[.int .i64 0, .int .i64 0] 0 (cF p) = (cF p).toArray := by kernel_rfl
    rw [e] at h
    exact h
  (try simp only [Exit.inBlock, Exit.then])
  refine bodyPost_ret (results_cell_tmp rfl _ (w5.setCells (w.heap.size + 1 + 1) 0 (cF p)) (w.heap.size + 1 + 1) 25 (cF p) _ rfl hbl Tryz.underlying25 rfl (by kernel_rfl)) rfl ?_
  exact ⟨rfl, below_setCells hb5 (show w.heap.size ≤ w.heap.size + 1 + 1 by omega) 0 (cF p)⟩

/-- claim.Mul, whatever it is handed. -/
def mulO (a b : Frac) : Frac × Int := if validF a && validF b then (match timesO a b with | some c => (c, 0) | none => (⟨0, 0⟩, 2)) else (⟨0, 0⟩, 1)

set_option maxRecDepth 100000 in
set_option maxHeartbeats 1600000 in
theorem mulD_any (a b : Frac) (w : World) : Calls Tryz.prog 32 #[aF a, aF b] w (Gives w (.tuple #[aF (mulO a b).1, .int .i64 (mulO a b).2])) := by
  have eF : Ent 93 := enters_of Tryz.func93 (by kernel_rfl) rfl
  have hmf : ∀ (fn : Fn) (first cap : Array Value) (w : World), (Instr.makeFunc fn first cap).run Tryz.prog w = .ok (.func fn first cap) w := fun _ _ _ _ => rfl
  have hd : ∀ W, Calls Tryz.prog 92 #[aF a, aF b, .func (.func 93) #[aF a] #[]] W (Gives W (.tuple #[aF (mulO a b).1, .int .i64 (mulO a b).2])) := by
    intro W
    unfold mulO
    cases hv : validF a && validF b with
    | false => simpa using done_bad 93 a b W hv
    | true =>
      have hv' := hv
      rw [Bool.and_eq_true] at hv'
      have ha := validF_ok hv'.1
      have hb := validF_ok hv'.2
      cases hp : timesO a b with
      | none => simpa using done_up 93 a b W eF (fun W => timesO_up a b W ha hb hp) hv
      | some c => simpa using done_ok 93 a b c W eF (fun W => timesO_ok a b c W ha hb hp) hv
  obtain ⟨⟨p, q⟩, hr⟩ : ∃ r, r = mulO a b := ⟨_, rfl⟩
  rw [← hr] at hd ⊢
  clear hr
  dsimp only at hd ⊢
  have hB : RowKit.Below w.heap.size w (((w.alloc (.cells #[.int .i64 a.num, .int .i64 a.den] 25)).alloc (.cells #[.int .i64 b.num, .int .i64 b.den] 25)).alloc (.cells #[.int .i64 0, .int .i64 0] 25)) := (((Below.refl _ w).alloc (Nat.le_refl _) _).alloc (by simp) _).alloc (by simp; omega) _
  have k4 := Blk.nw2 w (.cells #[.int .i64 a.num, .int .i64 a.den] 25) (.cells #[.int .i64 b.num, .int .i64 b.den] 25) 25 #[.int .i64 0, .int .i64 0]
  go_enter Tryz.func32, Tryz.ntmps32
  go_wp2_with (fail)
  refine (hd _).mono ?_
  clear hd
  rintro e w5 ⟨rfl, hB2⟩
  have k65 := k4.below' hB2
  have hb5 := hB.trans (hB2.mono hB.size)
  clear k4 hB hB2
  have c6 := k65.cell
  have f6 := k65.frozen
  go_wp2_with (fail)
  have hbl : Blk (w5.setCells (w.heap.size + 1 + 1) 0 (cF p)) (w.heap.size + 1 + 1) (cF p).toArray 25 := by
    have h := k65.setCells 0 (cF p)
    have e : setAll #[.int .i64 0, .int .i64 0] 0 (cF p) = (cF p).toArray := by kernel_rfl
    rw [e] at h
    exact h
  (try simp only [Exit.inBlock, Exit.then])
  refine bodyPost_ret (results_cell_tmp rfl _ (w5.setCells (w.heap.size + 1 + 1) 0 (cF p)) (w.heap.size + 1 + 1) 25 (cF p) _ rfl hbl Tryz.underlying25 rfl (by kernel_rfl)) rfl ?_
  exact ⟨rfl, below_setCells hb5 (show w.heap.size ≤ w.heap.size + 1 + 1 by omega) 0 (cF p)⟩

end Go.Proofs.YtmeomhojbobpbaaGreatDoor
