import Derived.Test.YtkeppoiomjhkpaaGreatDoorPart03
import Derived.Shelf.Abstract
import Derived.Test.YtkeppoiomjhkpaaGreatDoorPart01
import Derived.Laws.StructEq
import Derived.Lib.ConvBytes
/-
  Walks: claim.Norm.
-/
namespace Go.Proofs.YtkeppoiomjhkpaaGreatDoor
open Go.RowKit Lg Go.Sort Go.Shelf

theorem grownBy_trans_below {w w1 w' : World} {row : Option Nat} (h : Below w.heap.size w w1) (g : w1.grownBy w' row) : w.grownBy w' row :=
  ⟨g.os.trans h.os, g.tape.trans h.tape, g.output.trans h.output, Nat.le_trans h.size g.size, fun k hk hne => (g.block k (Nat.lt_of_lt_of_le hk h.size) hne).trans (h.block k hk)⟩

theorem grownBy_setCells (w : World) (B o : Nat) (vs : List Value) : w.grownBy (w.setCells B o vs) (some B) :=
  have h := below_setCells (Below.refl B w) (Nat.le_refl B) o vs
  ⟨h.os, h.tape, h.output, h.size, fun k _ hne => setCells_heap w B o vs k (fun e => hne (by rw [e]))⟩

theorem setAll_two (a b c d : Value) : setAll #[a, b] 0 [c, d] = #[c, d] := rfl

set_option maxRecDepth 100000 in
set_option maxHeartbeats 400000 in
theorem Norm1_ok (num den : Int) (B1 B2 B3 : Nat) (x y : Value) (w : World) (h0 : den ≠ 0) (hn : -4000000000000000000 ≤ num ∧ num ≤ 4000000000000000000) (hd : -4000000000000000000 ≤ den ∧ den ≤ 4000000000000000000) (hok : normOk num den = true)
    (k1 : Blk w B1 #[.int .i64 num] 3) (k2 : Blk w B2 #[.int .i64 den] 3) (k3 : Blk w B3 #[x, y] 41) :
    Calls Tryz.prog 130 #[.pointer (some ⟨B1, 0, none⟩), .pointer (some ⟨B2, 0, none⟩), .pointer (some ⟨B3, 0, none⟩)] w fun e w' => e = .returned (.tuple #[]) ∧ Blk w' B3 #[.int .i64 (normN num den).num, .int .i64 (normN num den).den] 41 ∧ w.grownBy w' (some B3) := by
  have hN := fun W => norm_ok num den W h0 hn hd hok
  generalize normN num den = q at *
  have c1 : w.cell? ⟨B1, 0, none⟩ = some (.int .i64 num) := k1.cell 0
  have c2 : w.cell? ⟨B2, 0, none⟩ = some (.int .i64 den) := k2.cell 0
  go_enter Tryz.func130, Tryz.ntmps130
  go_wp2_with (go_at_call 131; refine (hN _).mono ?_; rintro e w1 ⟨rfl, hB⟩; have k4 := k3.below' hB; have c4 := k4.cell; have f4 := k4.frozen)
  go_end0
  refine ⟨rfl, ?_, grownBy_trans_below hB (grownBy_setCells w1 B3 0 [.int .i64 q.num, .int .i64 q.den])⟩
  rw [← setAll_two x y]
  exact k4.setCells 0 [.int .i64 q.num, .int .i64 q.den]

set_option maxRecDepth 100000 in
set_option maxHeartbeats 400000 in
theorem Norm1_up (num den : Int) (B1 B2 B3 : Nat) (w : World) (h0 : den ≠ 0) (hn : -4000000000000000000 ≤ num ∧ num ≤ 4000000000000000000) (hd : -4000000000000000000 ≤ den ∧ den ≤ 4000000000000000000) (hok : normOk num den = false)
    (k1 : Blk w B1 #[.int .i64 num] 3) (k2 : Blk w B2 #[.int .i64 den] 3) :
    Calls Tryz.prog 130 #[.pointer (some ⟨B1, 0, none⟩), .pointer (some ⟨B2, 0, none⟩), .pointer (some ⟨B3, 0, none⟩)] w fun e w' => e = .panicked [{ v := upV, recovered := false }] ∧ Below w.heap.size w w' := by
  have hN := fun W => norm_up num den W h0 hn hd hok
  have c1 : w.cell? ⟨B1, 0, none⟩ = some (.int .i64 num) := k1.cell 0
  have c2 : w.cell? ⟨B2, 0, none⟩ = some (.int .i64 den) := k2.cell 0
  go_enter Tryz.func130, Tryz.ntmps130
  go_wp2_with (go_at_call 131; refine (hN _).mono ?_; rintro e w1 ⟨rfl, hB⟩)
  exact ⟨rfl, rfl, hB⟩

set_option maxRecDepth 100000 in
set_option maxHeartbeats 400000 in
theorem Norm_any (num den : Int) (w : World) :
    Calls Tryz.prog 94 #[.int .i64 num, .int .i64 den] w (Gives w (.tuple #[aF (normF num den).1, .int .i64 (normF num den).2])) := by
  have hmf : ∀ (fn : Fn) (first cap : Array Value) (w : World), (Instr.makeFunc fn first cap).run Tryz.prog w = .ok (.func fn first cap) w := fun _ _ _ _ => rfl
  have hw := within5_any
  by_cases hbad : (decide (den = 0) || !inn num (-1000000000000000) 1000000000000000 || !inn den (-1000000000000000) 1000000000000000) = true
  · have hF : normF num den = (⟨0, 0⟩, 1) := by unfold normF; rw [if_pos hbad]
    rw [hF]
    clear hF
    have Hb := Lib.hid hbad; clear hbad
    go_enter Tryz.func94, Tryz.ntmps94
    go_wp2_with (go_at_call 103; refine (hw _ _ _ _).mono ?_; rintro e w3 ⟨rfl, rfl⟩)
    all_goals first
      | (refine bodyPost_ret (v := .tuple #[aF ⟨0, 0⟩, .int .i64 1]) (by simp [results, Tryz.results94, go_sem]) rfl ⟨rfl, ?_⟩
         repeat (first | exact Below.refl _ _ | refine Below.alloc ?_ (by simp <;> omega) _ | refine Below.setCell ?_ (by simp) _ | refine Below.drew ?_))
      | (exfalso; have := Hb.out; simp_all)
  · have hb := hbad
    simp only [Bool.or_eq_true, not_or, Bool.not_eq_true, decide_eq_false_iff_not, Bool.not_eq_false'] at hb
    obtain ⟨⟨h0, h1⟩, h2⟩ := hb
    have b1 : -1000000000000000 ≤ num ∧ num ≤ 1000000000000000 := by unfold inn at h1; simpa using h1
    have b2 : -1000000000000000 ≤ den ∧ den ≤ 1000000000000000 := by unfold inn at h2; simpa using h2
    have e0 : (den == 0) = false := by simpa using h0
    obtain ⟨A, hA⟩ : ∃ A, A = ((w.alloc (.cells #[.int .i64 num] 3)).alloc (.cells #[.int .i64 den] 3)).alloc (.cells #[.int .i64 0, .int .i64 0] 41) := ⟨_, rfl⟩
    have hsz : A.heap.size = w.heap.size + 1 + 1 + 1 := by rw [hA]; simp
    have hBA : Below w.heap.size w A := hA ▸ (((Below.refl _ w).alloc (Nat.le_refl _) _).alloc (by simp) _).alloc (by simp; omega) _
    have j1 := Blk.new w 3 #[.int .i64 num]
    have j2 := Blk.new (w.alloc (.cells #[.int .i64 num] 3)) 3 #[.int .i64 den]
    have j3 := Blk.new ((w.alloc (.cells #[.int .i64 num] 3)).alloc (.cells #[.int .i64 den] 3)) 41 #[.int .i64 0, .int .i64 0]
    simp only [World.size_alloc] at j2 j3
    have k1 : Blk A w.heap.size #[.int .i64 num] 3 := by rw [hA]; exact (j1.alloc _).alloc _
    have k2 : Blk A (w.heap.size + 1) #[.int .i64 den] 3 := by rw [hA]; exact j2.alloc _
    have k3 : Blk A (w.heap.size + 1 + 1) #[.int .i64 0, .int .i64 0] 41 := by rw [hA]; exact j3
    have eg : ∀ args w, (callFunc 130 args).run Tryz.prog w = .ok (.enter 130 args) w := enters_of Tryz.func130 (by kernel_rfl) rfl
    have kE := Blk.new A 27 #[.int .i64 0]
    by_cases hok : normOk num den = true
    · have hF : normF num den = (normN num den, 0) := by unfold normF; rw [if_neg hbad, if_pos hok]
      have hr := ranged_ok 130 #[.pointer (some ⟨w.heap.size, 0, none⟩), .pointer (some ⟨w.heap.size + 1, 0, none⟩), .pointer (some ⟨w.heap.size + 1 + 1, 0, none⟩)] eg A
        (fun w' => Blk w' (w.heap.size + 1 + 1) #[.int .i64 (normN num den).num, .int .i64 (normN num den).den] 41 ∧ Below w.heap.size w w')
        ((Norm1_ok num den _ _ _ _ _ _ h0 (by omega) (by omega) hok (k1.alloc _) (k2.alloc _) (k3.alloc _)).mono fun e w' ⟨he, hb, hg⟩ =>
          ⟨he, kE.kept hg (by simp [hsz]), hb, (hBA.alloc hBA.size _).grown hg (by simp [hsz]; omega) (fun k hk => by cases hk; omega)⟩)
      rw [hF]
      generalize normN num den = q at *
      clear k1 k2 k3 j1 j2 j3 hbad hF kE
      go_enter Tryz.func94, Tryz.ntmps94
      go_wp2_with (first | (go_at_call 103; refine (hw _ _ _ _).mono ?_; rintro e w3 ⟨rfl, rfl⟩))
      rw [← hA]; clear hA
      refine hr.mono ?_
      rintro e w5 ⟨rfl, w4, ⟨hb4, hB4⟩, rfl⟩
      have hb5 := hb4.setCell_other (C := A.heap.size) (by omega) 0 (.int .i64 0)
      have c5 := hb5.cell
      have f5 := hb5.frozen
      have hB5 := hB4.setCell (p := ⟨A.heap.size, 0, none⟩) (show w.heap.size ≤ A.heap.size by omega) (.int .i64 0)
      clear hb4 hB4 hr
      generalize w4.setCell ⟨A.heap.size, 0, none⟩ (.int .i64 0) = w6 at *
      go_wp2
      refine bodyPost_ret (results_cell_tmp rfl _ _ (w.heap.size + 1 + 1) 41 [.int .i64 q.num, .int .i64 q.den] _ rfl ((hb5.setCell 0 (.int .i64 q.num)).setCell 1 (.int .i64 q.den)) Tryz.underlying41 rfl (by kernel_rfl)) rfl ⟨rfl, ?_⟩
      exact (hB5.setCell (p := ⟨w.heap.size + 1 + 1, 0, none⟩) (show w.heap.size ≤ w.heap.size + 1 + 1 by omega) _).setCell (p := ⟨w.heap.size + 1 + 1, 1, none⟩) (show w.heap.size ≤ w.heap.size + 1 + 1 by omega) _
    · have hF : normF num den = (⟨0, 0⟩, 2) := by unfold normF; rw [if_neg hbad, if_neg hok]
      have hr := ranged_up 130 #[.pointer (some ⟨w.heap.size, 0, none⟩), .pointer (some ⟨w.heap.size + 1, 0, none⟩), .pointer (some ⟨w.heap.size + 1 + 1, 0, none⟩)] eg A
        (fun w' => Blk w' (w.heap.size + 1 + 1) #[.int .i64 0, .int .i64 0] 41 ∧ Below w.heap.size w w')
        ((Norm1_up num den _ _ _ _ h0 (by omega) (by omega) (by simpa using hok) (k1.alloc _) (k2.alloc _)).mono fun e w' ⟨he, hb⟩ =>
          ⟨he, kE.below' hb, (k3.alloc _).below' hb, (hBA.alloc hBA.size _).trans (hb.mono (by simp; omega))⟩)
      rw [hF]
      clear k1 k2 k3 j1 j2 j3 hbad hF kE
      go_enter Tryz.func94, Tryz.ntmps94
      go_wp2_with (first | (go_at_call 103; refine (hw _ _ _ _).mono ?_; rintro e w3 ⟨rfl, rfl⟩))
      rw [← hA]; clear hA
      refine hr.mono ?_
      rintro e w5 ⟨rfl, w4, ⟨hb4, hB4⟩, rfl⟩
      have hb5 := (hb4.alloc (.cells #[] 200)).setCell_other (C := A.heap.size) (by omega) 0 (.int .i64 2)
      have c5 := hb5.cell
      have f5 := hb5.frozen
      have hB5 := (hB4.alloc hB4.size (.cells #[] 200)).setCell (p := ⟨A.heap.size, 0, none⟩) (show w.heap.size ≤ A.heap.size by omega) (.int .i64 2)
      clear hb4 hB4 hr
      generalize (w4.alloc (.cells #[] 200)).setCell ⟨A.heap.size, 0, none⟩ (.int .i64 2) = w6 at *
      go_wp2
      refine bodyPost_ret (results_cell_tmp rfl _ _ (w.heap.size + 1 + 1) 41 [.int .i64 0, .int .i64 0] _ rfl ((hb5.setCell 0 (.int .i64 0)).setCell 1 (.int .i64 0)) Tryz.underlying41 rfl (by kernel_rfl)) rfl ⟨rfl, ?_⟩
      exact (hB5.setCell (p := ⟨w.heap.size + 1 + 1, 0, none⟩) (show w.heap.size ≤ w.heap.size + 1 + 1 by omega) _).setCell (p := ⟨w.heap.size + 1 + 1, 1, none⟩) (show w.heap.size ≤ w.heap.size + 1 + 1 by omega) _

end Go.Proofs.YtkeppoiomjhkpaaGreatDoor

/-
  The model's '==' at the structs.
-/
namespace Go.Proofs.YtkeppoiomjhkpaaGreatDoor
open Go.RowKit Lg

theorem guardF : Tryz.prog.eqGuardType Tryz.prog.depth 41 = false := by kernel_rfl
theorem guardR : Tryz.prog.eqGuardType Tryz.prog.depth 43 = false := by kernel_rfl
theorem guardS : Tryz.prog.eqGuardType Tryz.prog.depth 24 = false := by kernel_rfl
theorem guardSh : Tryz.prog.eqGuardType Tryz.prog.depth 76 = false := by kernel_rfl

theorem eqFIn (d : Nat) (a b c e : Int) (w : World) : (Op.equalIn (d + 1 + 1) 41 (.agg #[.int .i64 a, .int .i64 b]) (.agg #[.int .i64 c, .int .i64 e])).run Tryz.prog w = .ok (decide (a = c ∧ b = e)) w := by
  have u3 := Tryz.underlying3
  have a3 := Tryz.isAgg3
  have z3 := Tryz.sizeOf3
  have hS : Tryz.prog.underlying 41 = some (.struct (Tryz.prog.fieldsOf 41)) := by kernel_rfl
  have hp : Tryz.prog.stoodInHeld 41 = false := by kernel_rfl
  rw [run_equalIn_agg w (d + 1) 41 _ _ hS hp]
  simp only [Program.fieldsOf, Tryz.underlying41]
  go_simp
  by_cases h1 : a = c
  · subst h1; by_cases h2 : b = e
    · subst h2; simp
    · simp [h2]
  · simp [h1]

theorem eqF (x y : Frac) (w : World) : (binOp .eql 41 (aF x) (aF y)).run Tryz.prog w = .ok (.bool (decide (x = y))) w := by
  rw [run_eql_struct, show (10000 : Nat) = 9998 + 1 + 1 from rfl, eqFIn]
  obtain ⟨a, b⟩ := x
  obtain ⟨c, d⟩ := y
  simp [Result.andThen]

theorem eqSh (x y : Share) (w : World) : (binOp .eql 76 (aSh x) (aSh y)).run Tryz.prog w = .ok (.bool (decide (x = y))) w := by
  have u3 := Tryz.underlying3
  have a3 := Tryz.isAgg3
  have z3 := Tryz.sizeOf3
  have hS : Tryz.prog.underlying 76 = some (.struct (Tryz.prog.fieldsOf 76)) := by kernel_rfl
  have hp : Tryz.prog.stoodInHeld 76 = false := by kernel_rfl
  obtain ⟨a, b⟩ := x
  obtain ⟨c, e⟩ := y
  rw [run_eql_struct, show (10000 : Nat) = 9999 + 1 from rfl, run_equalIn_agg w 9999 76 _ _ hS hp]
  simp only [Program.fieldsOf, Tryz.underlying76]
  go_simp
  by_cases h1 : a = c
  · subst h1; by_cases h2 : b = e
    · subst h2; simp
    · simp [h2]
  · simp [h1]

set_option maxHeartbeats 800000 in
theorem eqS (x y : Sale) (w : World) : (binOp .eql 24 (aS x) (aS y)).run Tryz.prog w = .ok (.bool (decide (x = y))) w := by
  have u3 := Tryz.underlying3
  have a3 := Tryz.isAgg3
  have z3 := Tryz.sizeOf3
  have hS : Tryz.prog.underlying 24 = some (.struct (Tryz.prog.fieldsOf 24)) := by kernel_rfl
  have hp : Tryz.prog.stoodInHeld 24 = false := by kernel_rfl
  obtain ⟨a1, a2, a3, a4, a5, a6, a7, a8, a9⟩ := x
  obtain ⟨b1, b2, b3, b4, b5, b6, b7, b8, b9⟩ := y
  rw [run_eql_struct, show (10000 : Nat) = 9999 + 1 from rfl, run_equalIn_agg w 9999 24 _ _ hS hp]
  simp only [Program.fieldsOf, Tryz.underlying24]
  go_simp
  iterate 9 (split; rotate_left; · simp [*])
  simp [*]

set_option maxHeartbeats 800000 in
theorem eqR (x y : Rate) (w : World) : (binOp .eql 43 (aR x) (aR y)).run Tryz.prog w = .ok (.bool (decide (x = y))) w := by
  have u3 := Tryz.underlying3
  have a3 := Tryz.isAgg3
  have z3 := Tryz.sizeOf3
  have u9 := Tryz.underlying9
  have a9 := Tryz.isAgg9
  have z9 := Tryz.sizeOf9
  have u24 := Tryz.underlying41
  have a24 := Tryz.isAgg41
  have z24 := Tryz.sizeOf41
  have hS : Tryz.prog.underlying 43 = some (.struct (Tryz.prog.fieldsOf 43)) := by kernel_rfl
  have hp : Tryz.prog.stoodInHeld 43 = false := by kernel_rfl
  obtain ⟨a1, a2, a3, a4, ⟨a5, a6⟩, a7, a8, a9⟩ := x
  obtain ⟨b1, b2, b3, b4, ⟨b5, b6⟩, b7, b8, b9⟩ := y
  rw [run_eql_struct, show (10000 : Nat) = 9999 + 1 from rfl, run_equalIn_agg w 9999 43 _ _ hS hp]
  simp only [Program.fieldsOf, Tryz.underlying43]
  go_simp
  have e4 : (a4.toList = b4.toList) ↔ (a4 = b4) := by
    have := toList_beq a4 b4
    rw [Bool.eq_iff_iff] at this
    simpa using this
  simp only [e4]
  iterate 9 (split; rotate_left; · simp [*])
  simp [*]

end Go.Proofs.YtkeppoiomjhkpaaGreatDoor

/-
  Walks: names, parts.
-/
namespace Go.Proofs.YtkeppoiomjhkpaaGreatDoor
open Go.RowKit Lg Go.Sort Go.Shelf

set_option maxHeartbeats 400000 in
theorem nameCh_any (c : UInt8) (w : World) : Calls Tryz.prog 93 #[.int .u8 c.toNat] w (Gives w (.bool (!chOk c))) := by
  have h256 : c.toNat < 256 := c.toNat_lt
  go_enter Tryz.func93, Tryz.ntmps93
  go_wp2
  all_goals
    go_ret
    refine ⟨ret_bool ?_, Below.refl _ _⟩
    rw [Bool.eq_iff_iff]
    simp [chOk]
    omega

theorem grownCap_bd (w : World) (n : Nat) (e : TypeId) (hn : n ≤ 1000000) : n ≤ grownCap w n 0 e ∧ grownCap w n 0 e ≤ maxLen := by
  have h : grownCap w n 0 e = n + (w.tape w.drawn (.appendCap n 0 e)) % (2 ^ 63 - n) := rfl
  have h2 := Nat.mod_lt (w.tape w.drawn (.appendCap n 0 e)) (show 2 ^ 63 - n > 0 by omega)
  rw [h]; unfold maxLen; omega

theorem Lst.bytes (w : World) (e : TypeId) (s : ByteArray) (hs : s.size ≤ 1000000) : Lst (Lib.bytesWorld w e s) 1 cB (some ⟨w.heap.size, 0, none⟩) s.size (grownCap w s.size 0 e) s.data.toList :=
  ⟨(Array.length_toList : s.data.toList.length = s.data.size), (grownCap_bd w s.size e hs).1, (grownCap_bd w s.size e hs).2, fun i x hx => by
    refine ⟨w.heap.size, 0, rfl, by rw [Lib.bytesWorld_size]; exact Nat.lt_succ_self _, fun j v hv => ?_⟩
    have hi : i < s.size := by have := (List.getElem?_eq_some_iff.1 hx).1; rw [Array.length_toList] at this; exact this
    obtain rfl : j = 0 := by
      rcases j with _ | j
      · rfl
      · simp at hv
    simp at hv; subst hv
    have := Lib.bytesWorld_cell w e s i hi
    simp only [Nat.zero_add, Nat.mul_one, Nat.add_zero]
    rw [this, List.getD_eq_getElem?_getD, hx]; rfl⟩

theorem below_bytes (w : World) (e : TypeId) (s : ByteArray) : RowKit.Below w.heap.size w (Lib.bytesWorld w e s) :=
  ⟨rfl, rfl, rfl, by rw [Lib.bytesWorld_size]; omega, fun k hk => Lib.bytesWorld_at_old w e s k hk⟩

set_option maxRecDepth 100000 in
set_option maxHeartbeats 400000 in
theorem isName_any (s : ByteArray) (w : World) : Calls Tryz.prog 62 #[.string s] w (Gives w (.bool (nameOk s))) := by
  have hin := in6_any
  by_cases h1 : inn s.size 1 24 = true
  · have hb : 1 ≤ s.size ∧ s.size ≤ 24 := by unfold inn at h1; simp at h1; omega
    have hcv := fun w => Lib.run_convert_string_bytes (P := Tryz.prog) w 9 128 5 s Tryz.underlying9 Tryz.underlying128 Tryz.underlying5
    have eg : ∀ args w, (callFunc 93 args).run Tryz.prog w = .ok (.enter 93 args) w := enters_of Tryz.func93 (by kernel_rfl) rfl
    have hcb := contB_any (fun c => !chOk c) 93 #[] eg _ _ _ _ _ (Lst.bytes w 5 s (by omega)) (fun W c _ => nameCh_any c W)
    have hname : nameOk s = (lowOk (s.data.toList.headD 0) && !(s.data.toList.any fun c => !chOk c)) := by
      unfold nameOk; rw [h1, Bool.true_and, List.all_eq_not_any_not]
    have hhd : s.data.toList.headD 0 = s[0]'(by omega) := by
      have : 0 < s.data.toList.length := by rw [Array.length_toList]; exact hb.1
      rw [List.headD_eq_head?_getD, List.head?_eq_getElem?, List.getElem?_eq_getElem this]; rfl
    rw [hname, hhd]
    generalize (s.data.toList.any fun c => !chOk c) = b at *
    have h1' := h1
    clear hname hhd
    go_enter Tryz.func62, Tryz.ntmps62
    go_wp2_with (first | (go_at_call 55; refine (hin _ _ _ _).mono ?_; rintro e w3 ⟨rfl, rfl⟩) | (go_at_call 92; refine hcb.mono ?_; rintro e w3 ⟨rfl, hB⟩))
    · go_ret
      have e : lowOk s[0] = false := by simp only [lowOk, decide_eq_false_iff_not]; omega
      exact ⟨ret_bool (by rw [e]; rfl), Below.refl _ _⟩
    · go_ret
      have e : lowOk s[0] = true := by simp only [lowOk, decide_eq_true_eq]; omega
      exact ⟨ret_bool (by rw [e, Bool.true_and]), (below_bytes w 5 s).trans (hB.mono (below_bytes w 5 s).size)⟩
    · go_ret
      have e : lowOk s[0] = false := by simp only [lowOk, decide_eq_false_iff_not]; omega
      exact ⟨ret_bool (by rw [e]; rfl), Below.refl _ _⟩
  · have h1' : inn s.size 1 24 = false := by simpa using h1
    have hname : nameOk s = false := by unfold nameOk; rw [h1']; rfl
    rw [hname]
    go_enter Tryz.func62, Tryz.ntmps62
    go_wp2_with (first | (go_at_call 55; refine (hin _ _ _ _).mono ?_; rintro e w3 ⟨rfl, rfl⟩))
    go_ret
    exact ⟨rfl, Below.refl _ _⟩


set_option maxRecDepth 100000 in
set_option maxHeartbeats 400000 in
theorem isPart_any (f : Frac) (w : World) : Calls Tryz.prog 63 #[aF f] w (Gives w (.bool (partOk f))) := by
  have hin := in6_any
  have hq := eqF
  have hg := guardF
  have hN := fun W => Norm_any f.num f.den W
  rw [← normF_part]
  generalize normF f.num f.den = r at *
  obtain ⟨g, e⟩ := r
  by_cases he : e = 0
  · subst he
    by_cases hf : f = g
    · have Hf := Lib.hid hf; clear hf
      have hd : decide (f = g) = true := by simpa using Hf.out
      go_enter Tryz.func63, Tryz.ntmps63
      go_wp2_with (first | (go_at_call 55; refine (hin _ _ _ _).mono ?_; rintro e w3 ⟨rfl, rfl⟩) | (go_at_call 94; refine (hN _).mono ?_; rintro e w3 ⟨rfl, hB⟩; have k3 : Blk w3 w.heap.size #[.int .i64 f.num, .int .i64 f.den] 41 := (Blk.new w _ _).below' hB; have c3 := k3.cell; have z3 := k3.lt; have hB3 := ((Below.refl _ w).alloc (Nat.le_refl _) _).trans (hB.mono (by simp))))
      go_ret
      refine ⟨ret_bool (by simp [Hf.out]), ?_⟩
      repeat (first | assumption | exact Below.refl _ _ | refine Below.alloc ?_ (by first | omega | simp <;> omega) _ | refine Below.setCell ?_ (by simp <;> omega) _ | refine Below.drew ?_)
    · have Hf := Lib.hid hf; clear hf
      have hd : decide (f = g) = false := by simpa using Hf.out
      go_enter Tryz.func63, Tryz.ntmps63
      go_wp2_with (first | (go_at_call 55; refine (hin _ _ _ _).mono ?_; rintro e w3 ⟨rfl, rfl⟩) | (go_at_call 94; refine (hN _).mono ?_; rintro e w3 ⟨rfl, hB⟩; have k3 : Blk w3 w.heap.size #[.int .i64 f.num, .int .i64 f.den] 41 := (Blk.new w _ _).below' hB; have c3 := k3.cell; have z3 := k3.lt; have hB3 := ((Below.refl _ w).alloc (Nat.le_refl _) _).trans (hB.mono (by simp))))
      go_ret
      refine ⟨ret_bool (by simp [Hf.out]), ?_⟩
      repeat (first | assumption | exact Below.refl _ _ | refine Below.alloc ?_ (by first | omega | simp <;> omega) _ | refine Below.setCell ?_ (by simp <;> omega) _ | refine Below.drew ?_)
  · have he' : (e == 0) = false := by simpa using he
    have He := Lib.hid he; clear he
    go_enter Tryz.func63, Tryz.ntmps63
    go_wp2_with (first | (go_at_call 55; refine (hin _ _ _ _).mono ?_; rintro e w3 ⟨rfl, rfl⟩) | (go_at_call 94; refine (hN _).mono ?_; rintro e w3 ⟨rfl, hB⟩; have k3 : Blk w3 w.heap.size #[.int .i64 f.num, .int .i64 f.den] 41 := (Blk.new w _ _).below' hB; have c3 := k3.cell; have z3 := k3.lt; have hB3 := ((Below.refl _ w).alloc (Nat.le_refl _) _).trans (hB.mono (by simp))))
    go_ret
    refine ⟨ret_bool (by simp [He.out]), ?_⟩
    repeat (first | assumption | exact Below.refl _ _ | refine Below.alloc ?_ (by first | omega | simp <;> omega) _ | refine Below.setCell ?_ (by simp <;> omega) _ | refine Below.drew ?_)

end Go.Proofs.YtkeppoiomjhkpaaGreatDoor
