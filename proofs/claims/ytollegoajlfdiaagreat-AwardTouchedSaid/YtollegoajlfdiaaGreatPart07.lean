import Derived.Test.YtollegoajlfdiaaGreatPart04
import Derived.BigQuiet
import Derived.Test.YtollegoajlfdiaaGreatPart01
import Derived.Laws.StructEq
import Derived.Test.YtollegoajlfdiaaGreatPart06
import Derived.Lib.ConvBytes
/-
  Walks: the closures of follows.
-/
namespace Go.Proofs.YtollegoajlfdiaaGreat
open Go.RowKit Lg Go.Sort

set_option maxRecDepth 100000 in
set_option maxHeartbeats 400000 in
theorem folR1_any (x : Rate) (h : Head) (B1 : Nat) (w : World) (c1 : w.cell? ⟨B1, 0, none⟩ = some (.int .i64 h.id)) :
    Calls Tryz.prog 117 #[aR x, .pointer (some ⟨B1, 0, none⟩)] w (Gives w (.bool (decide (x.id = h.id)))) := by
  obtain ⟨W, hW⟩ : ∃ W, W = w.alloc (.cells #[.int .i64 x.id, .int .i64 x.known, .int .i64 x.from_, .string x.goods, .int .i64 x.finder.num, .int .i64 x.finder.den, .int .i64 x.cart, .int .i64 x.store, .int .i64 x.of_] 26) := ⟨_, rfl⟩
  have b1 : B1 < w.heap.size := block_lt_of_cell c1
  have hB : Below w.heap.size w W := hW ▸ (Below.refl _ w).alloc (Nat.le_refl _) _
  have k1 := cell_regrown ((hB.cell (p := ⟨B1, 0, none⟩) b1).trans c1)
  have k3 := box_regrown hW
  have fh := fieldH
  have cH := regrown_call (w := W) (v := .agg #[.int .i64 x.id, .int .i64 x.known, .int .i64 x.of_]) (fun W' _ => headR_any x W')
  go_enter Tryz.func117, Tryz.ntmps117
  go_wp2
  rw [← hW]; clear hW
  refine wp_region_quiet_below (by kernel_rfl) (by kernel_rfl) ?_
  repeat (go_big_quiet_step (exact cH _ _))
  refine wpQuiet_nil ?_
  intro _ hw'
  obtain ⟨⟨dq, osq⟩, hw''⟩ := hw'
  subst hw''
  go_wp2
  go_ret
  exact ⟨ret_bool rfl, hB.trans ((below_regrown W dq osq).mono hB.size)⟩

set_option maxRecDepth 100000 in
set_option maxHeartbeats 400000 in
theorem folR2_any (x : Rate) (h : Head) (B1 : Nat) (w : World) (c1 : w.cell? ⟨B1, 2, none⟩ = some (.int .i64 h.of_)) :
    Calls Tryz.prog 118 #[aR x, .pointer (some ⟨B1, 0, none⟩)] w (Gives w (.bool (decide (x.id = h.of_) && decide (x.of_ = 0)))) := by
  obtain ⟨W, hW⟩ : ∃ W, W = w.alloc (.cells #[.int .i64 x.id, .int .i64 x.known, .int .i64 x.from_, .string x.goods, .int .i64 x.finder.num, .int .i64 x.finder.den, .int .i64 x.cart, .int .i64 x.store, .int .i64 x.of_] 26) := ⟨_, rfl⟩
  have b1 : B1 < w.heap.size := block_lt_of_cell c1
  have hB : Below w.heap.size w W := hW ▸ (Below.refl _ w).alloc (Nat.le_refl _) _
  have k1 := cell_regrown ((hB.cell (p := ⟨B1, 2, none⟩) b1).trans c1)
  have k3 := box_regrown hW
  have fh := fieldH
  have cH := regrown_call (w := W) (v := .agg #[.int .i64 x.id, .int .i64 x.known, .int .i64 x.of_]) (fun W' _ => headR_any x W')
  go_enter Tryz.func118, Tryz.ntmps118
  go_wp2
  rw [← hW]; clear hW
  by_cases hid : x.id = h.of_
  · have g1 : (x.id == h.of_) = true := by simp [hid]
    have H := Lib.hid hid; clear hid
    refine wp_region_quiet_below (by kernel_rfl) (by kernel_rfl) ?_
    repeat (go_big_quiet_step (exact cH _ _))
    refine wpQuiet_nil ?_
    intro _ hw'
    obtain ⟨⟨dq, osq⟩, hw''⟩ := hw'
    subst hw''
    go_wp2
    go_ret
    exact ⟨ret_bool (by simp [H.out]; rfl), hB.trans ((below_regrown W dq osq).mono hB.size)⟩
  · have g1 : (x.id == h.of_) = false := by simp [hid]
    have H := Lib.hid hid; clear hid
    refine wp_region_quiet_below (by kernel_rfl) (by kernel_rfl) ?_
    repeat (go_big_quiet_step (exact cH _ _))
    refine wpQuiet_nil ?_
    intro _ hw'
    obtain ⟨⟨dq, osq⟩, hw''⟩ := hw'
    subst hw''
    go_wp2
    go_ret
    exact ⟨ret_bool (by simp [H.out]), hB.trans ((below_regrown W dq osq).mono hB.size)⟩

set_option maxRecDepth 100000 in
set_option maxHeartbeats 400000 in
theorem folR3_any (x : Rate) (h : Head) (B1 : Nat) (w : World) (c1 : w.cell? ⟨B1, 2, none⟩ = some (.int .i64 h.of_)) :
    Calls Tryz.prog 119 #[aR x, .pointer (some ⟨B1, 0, none⟩)] w (Gives w (.bool (decide (x.of_ = h.of_)))) := by
  obtain ⟨W, hW⟩ : ∃ W, W = w.alloc (.cells #[.int .i64 x.id, .int .i64 x.known, .int .i64 x.from_, .string x.goods, .int .i64 x.finder.num, .int .i64 x.finder.den, .int .i64 x.cart, .int .i64 x.store, .int .i64 x.of_] 26) := ⟨_, rfl⟩
  have b1 : B1 < w.heap.size := block_lt_of_cell c1
  have hB : Below w.heap.size w W := hW ▸ (Below.refl _ w).alloc (Nat.le_refl _) _
  have k1 := cell_regrown ((hB.cell (p := ⟨B1, 2, none⟩) b1).trans c1)
  have k3 := box_regrown hW
  have fh := fieldH
  have cH := regrown_call (w := W) (v := .agg #[.int .i64 x.id, .int .i64 x.known, .int .i64 x.of_]) (fun W' _ => headR_any x W')
  go_enter Tryz.func119, Tryz.ntmps119
  go_wp2
  rw [← hW]; clear hW
  refine wp_region_quiet_below (by kernel_rfl) (by kernel_rfl) ?_
  repeat (go_big_quiet_step (exact cH _ _))
  refine wpQuiet_nil ?_
  intro _ hw'
  obtain ⟨⟨dq, osq⟩, hw''⟩ := hw'
  subst hw''
  go_wp2
  go_ret
  exact ⟨ret_bool rfl, hB.trans ((below_regrown W dq osq).mono hB.size)⟩

set_option maxRecDepth 100000 in
set_option maxHeartbeats 400000 in
theorem folS1_any (x : Sale) (h : Head) (B1 : Nat) (w : World) (c1 : w.cell? ⟨B1, 0, none⟩ = some (.int .i64 h.id)) :
    Calls Tryz.prog 153 #[aS x, .pointer (some ⟨B1, 0, none⟩)] w (Gives w (.bool (decide (x.id = h.id)))) := by
  obtain ⟨W, hW⟩ : ∃ W, W = w.alloc (.cells #[.int .i64 x.id, .int .i64 x.known, .int .i64 x.hour, .int .i64 x.parcel, .int .i64 x.price, .int .i64 x.carter, .int .i64 x.keeper, .int .i64 x.since, .int .i64 x.of_] 39) := ⟨_, rfl⟩
  have b1 : B1 < w.heap.size := block_lt_of_cell c1
  have hB : Below w.heap.size w W := hW ▸ (Below.refl _ w).alloc (Nat.le_refl _) _
  have k1 := cell_regrown ((hB.cell (p := ⟨B1, 0, none⟩) b1).trans c1)
  have k3 := box_regrown hW
  have fh := fieldH
  have cH := regrown_call (w := W) (v := .agg #[.int .i64 x.id, .int .i64 x.known, .int .i64 x.of_]) (fun W' _ => headS_any x W')
  go_enter Tryz.func153, Tryz.ntmps153
  go_wp2
  rw [← hW]; clear hW
  refine wp_region_quiet_below (by kernel_rfl) (by kernel_rfl) ?_
  repeat (go_big_quiet_step (exact cH _ _))
  refine wpQuiet_nil ?_
  intro _ hw'
  obtain ⟨⟨dq, osq⟩, hw''⟩ := hw'
  subst hw''
  go_wp2
  go_ret
  exact ⟨ret_bool rfl, hB.trans ((below_regrown W dq osq).mono hB.size)⟩

set_option maxRecDepth 100000 in
set_option maxHeartbeats 400000 in
theorem folS2_any (x : Sale) (h : Head) (B1 : Nat) (w : World) (c1 : w.cell? ⟨B1, 2, none⟩ = some (.int .i64 h.of_)) :
    Calls Tryz.prog 154 #[aS x, .pointer (some ⟨B1, 0, none⟩)] w (Gives w (.bool (decide (x.id = h.of_) && decide (x.of_ = 0)))) := by
  obtain ⟨W, hW⟩ : ∃ W, W = w.alloc (.cells #[.int .i64 x.id, .int .i64 x.known, .int .i64 x.hour, .int .i64 x.parcel, .int .i64 x.price, .int .i64 x.carter, .int .i64 x.keeper, .int .i64 x.since, .int .i64 x.of_] 39) := ⟨_, rfl⟩
  have b1 : B1 < w.heap.size := block_lt_of_cell c1
  have hB : Below w.heap.size w W := hW ▸ (Below.refl _ w).alloc (Nat.le_refl _) _
  have k1 := cell_regrown ((hB.cell (p := ⟨B1, 2, none⟩) b1).trans c1)
  have k3 := box_regrown hW
  have fh := fieldH
  have cH := regrown_call (w := W) (v := .agg #[.int .i64 x.id, .int .i64 x.known, .int .i64 x.of_]) (fun W' _ => headS_any x W')
  go_enter Tryz.func154, Tryz.ntmps154
  go_wp2
  rw [← hW]; clear hW
  by_cases hid : x.id = h.of_
  · have g1 : (x.id == h.of_) = true := by simp [hid]
    have H := Lib.hid hid; clear hid
    refine wp_region_quiet_below (by kernel_rfl) (by kernel_rfl) ?_
    repeat (go_big_quiet_step (exact cH _ _))
    refine wpQuiet_nil ?_
    intro _ hw'
    obtain ⟨⟨dq, osq⟩, hw''⟩ := hw'
    subst hw''
    go_wp2
    go_ret
    exact ⟨ret_bool (by simp [H.out]; rfl), hB.trans ((below_regrown W dq osq).mono hB.size)⟩
  · have g1 : (x.id == h.of_) = false := by simp [hid]
    have H := Lib.hid hid; clear hid
    refine wp_region_quiet_below (by kernel_rfl) (by kernel_rfl) ?_
    repeat (go_big_quiet_step (exact cH _ _))
    refine wpQuiet_nil ?_
    intro _ hw'
    obtain ⟨⟨dq, osq⟩, hw''⟩ := hw'
    subst hw''
    go_wp2
    go_ret
    exact ⟨ret_bool (by simp [H.out]), hB.trans ((below_regrown W dq osq).mono hB.size)⟩

set_option maxRecDepth 100000 in
set_option maxHeartbeats 400000 in
theorem folS3_any (x : Sale) (h : Head) (B1 : Nat) (w : World) (c1 : w.cell? ⟨B1, 2, none⟩ = some (.int .i64 h.of_)) :
    Calls Tryz.prog 155 #[aS x, .pointer (some ⟨B1, 0, none⟩)] w (Gives w (.bool (decide (x.of_ = h.of_)))) := by
  obtain ⟨W, hW⟩ : ∃ W, W = w.alloc (.cells #[.int .i64 x.id, .int .i64 x.known, .int .i64 x.hour, .int .i64 x.parcel, .int .i64 x.price, .int .i64 x.carter, .int .i64 x.keeper, .int .i64 x.since, .int .i64 x.of_] 39) := ⟨_, rfl⟩
  have b1 : B1 < w.heap.size := block_lt_of_cell c1
  have hB : Below w.heap.size w W := hW ▸ (Below.refl _ w).alloc (Nat.le_refl _) _
  have k1 := cell_regrown ((hB.cell (p := ⟨B1, 2, none⟩) b1).trans c1)
  have k3 := box_regrown hW
  have fh := fieldH
  have cH := regrown_call (w := W) (v := .agg #[.int .i64 x.id, .int .i64 x.known, .int .i64 x.of_]) (fun W' _ => headS_any x W')
  go_enter Tryz.func155, Tryz.ntmps155
  go_wp2
  rw [← hW]; clear hW
  refine wp_region_quiet_below (by kernel_rfl) (by kernel_rfl) ?_
  repeat (go_big_quiet_step (exact cH _ _))
  refine wpQuiet_nil ?_
  intro _ hw'
  obtain ⟨⟨dq, osq⟩, hw''⟩ := hw'
  subst hw''
  go_wp2
  go_ret
  exact ⟨ret_bool rfl, hB.trans ((below_regrown W dq osq).mono hB.size)⟩

end Go.Proofs.YtollegoajlfdiaaGreat

/-
  The model's '==' at the structs.
-/
namespace Go.Proofs.YtollegoajlfdiaaGreat
open Go.RowKit Lg

theorem guardF : Tryz.prog.eqGuardType Tryz.prog.depth 24 = false := by kernel_rfl
theorem guardR : Tryz.prog.eqGuardType Tryz.prog.depth 26 = false := by kernel_rfl
theorem guardS : Tryz.prog.eqGuardType Tryz.prog.depth 39 = false := by kernel_rfl
theorem guardSh : Tryz.prog.eqGuardType Tryz.prog.depth 69 = false := by kernel_rfl

theorem eqFIn (d : Nat) (a b c e : Int) (w : World) : (Op.equalIn (d + 1 + 1) 24 (.agg #[.int .i64 a, .int .i64 b]) (.agg #[.int .i64 c, .int .i64 e])).run Tryz.prog w = .ok (decide (a = c ∧ b = e)) w := by
  have u3 := Tryz.underlying3
  have a3 := Tryz.isAgg3
  have z3 := Tryz.sizeOf3
  have hS : Tryz.prog.underlying 24 = some (.struct (Tryz.prog.fieldsOf 24)) := by kernel_rfl
  have hp : Tryz.prog.stoodInHeld 24 = false := by kernel_rfl
  rw [run_equalIn_agg w (d + 1) 24 _ _ hS hp]
  simp only [Program.fieldsOf, Tryz.underlying24]
  go_simp
  by_cases h1 : a = c
  · subst h1; by_cases h2 : b = e
    · subst h2; simp
    · simp [h2]
  · simp [h1]

theorem eqF (x y : Frac) (w : World) : (binOp .eql 24 (aF x) (aF y)).run Tryz.prog w = .ok (.bool (decide (x = y))) w := by
  rw [run_eql_struct, show (10000 : Nat) = 9998 + 1 + 1 from rfl, eqFIn]
  obtain ⟨a, b⟩ := x
  obtain ⟨c, d⟩ := y
  simp [Result.andThen]

theorem eqSh (x y : Share) (w : World) : (binOp .eql 69 (aSh x) (aSh y)).run Tryz.prog w = .ok (.bool (decide (x = y))) w := by
  have u3 := Tryz.underlying3
  have a3 := Tryz.isAgg3
  have z3 := Tryz.sizeOf3
  have hS : Tryz.prog.underlying 69 = some (.struct (Tryz.prog.fieldsOf 69)) := by kernel_rfl
  have hp : Tryz.prog.stoodInHeld 69 = false := by kernel_rfl
  obtain ⟨a, b⟩ := x
  obtain ⟨c, e⟩ := y
  rw [run_eql_struct, show (10000 : Nat) = 9999 + 1 from rfl, run_equalIn_agg w 9999 69 _ _ hS hp]
  simp only [Program.fieldsOf, Tryz.underlying69]
  go_simp
  by_cases h1 : a = c
  · subst h1; by_cases h2 : b = e
    · subst h2; simp
    · simp [h2]
  · simp [h1]

set_option maxHeartbeats 800000 in
theorem eqS (x y : Sale) (w : World) : (binOp .eql 39 (aS x) (aS y)).run Tryz.prog w = .ok (.bool (decide (x = y))) w := by
  have u3 := Tryz.underlying3
  have a3 := Tryz.isAgg3
  have z3 := Tryz.sizeOf3
  have hS : Tryz.prog.underlying 39 = some (.struct (Tryz.prog.fieldsOf 39)) := by kernel_rfl
  have hp : Tryz.prog.stoodInHeld 39 = false := by kernel_rfl
  obtain ⟨a1, a2, a3, a4, a5, a6, a7, a8, a9⟩ := x
  obtain ⟨b1, b2, b3, b4, b5, b6, b7, b8, b9⟩ := y
  rw [run_eql_struct, show (10000 : Nat) = 9999 + 1 from rfl, run_equalIn_agg w 9999 39 _ _ hS hp]
  simp only [Program.fieldsOf, Tryz.underlying39]
  go_simp
  iterate 9 (split; rotate_left; · simp [*])
  simp [*]

set_option maxHeartbeats 800000 in
theorem eqR (x y : Rate) (w : World) : (binOp .eql 26 (aR x) (aR y)).run Tryz.prog w = .ok (.bool (decide (x = y))) w := by
  have u3 := Tryz.underlying3
  have a3 := Tryz.isAgg3
  have z3 := Tryz.sizeOf3
  have u9 := Tryz.underlying9
  have a9 := Tryz.isAgg9
  have z9 := Tryz.sizeOf9
  have u24 := Tryz.underlying24
  have a24 := Tryz.isAgg24
  have z24 := Tryz.sizeOf24
  have hS : Tryz.prog.underlying 26 = some (.struct (Tryz.prog.fieldsOf 26)) := by kernel_rfl
  have hp : Tryz.prog.stoodInHeld 26 = false := by kernel_rfl
  obtain ⟨a1, a2, a3, a4, ⟨a5, a6⟩, a7, a8, a9⟩ := x
  obtain ⟨b1, b2, b3, b4, ⟨b5, b6⟩, b7, b8, b9⟩ := y
  rw [run_eql_struct, show (10000 : Nat) = 9999 + 1 from rfl, run_equalIn_agg w 9999 26 _ _ hS hp]
  simp only [Program.fieldsOf, Tryz.underlying26]
  go_simp
  have e4 : (a4.toList = b4.toList) ↔ (a4 = b4) := by
    have := toList_beq a4 b4
    rw [Bool.eq_iff_iff] at this
    simpa using this
  simp only [e4]
  iterate 9 (split; rotate_left; · simp [*])
  simp [*]

end Go.Proofs.YtollegoajlfdiaaGreat

/-
  Walks: names, parts.
-/
namespace Go.Proofs.YtollegoajlfdiaaGreat
open Go.RowKit Lg Go.Sort Go.Shelf

set_option maxHeartbeats 400000 in
theorem nameCh_any (c : UInt8) (w : World) : Calls Tryz.prog 136 #[.int .u8 c.toNat] w (Gives w (.bool (!chOk c))) := by
  have h256 : c.toNat < 256 := c.toNat_lt
  go_enter Tryz.func136, Tryz.ntmps136
  go_wp2
  all_goals
    go_ret
    refine ⟨ret_bool ?_, Below.refl _ _⟩
    rw [Bool.eq_iff_iff]
    simp [chOk]
    omega

theorem grownCap_bd (w : World) (n : Nat) (e : TypeId) (hn : n ≤ 1000000) : n ≤ grownCap w n 0 e ∧ grownCap w n 0 e ≤ maxLen := by
  have h : grownCap w n 0 e = n + (w.tape w.drawn (.appendCap n 0 e)) % (2 ^ 63 - n) := rfl
  have h2 := Nat.mod_lt (w.tape w.drawn (.appendCap n 0 e)) (show 2 ^ 63 - n > 0 by omega)
  rw [h]; unfold maxLen; omega

theorem Lst.bytes (w : World) (e : TypeId) (s : ByteArray) (hs : s.size ≤ 1000000) : Lst (Lib.bytesWorld w e s) 1 cB (some ⟨w.heap.size, 0, none⟩) s.size (grownCap w s.size 0 e) s.data.toList :=
  ⟨(Array.length_toList : s.data.toList.length = s.data.size), (grownCap_bd w s.size e hs).1, (grownCap_bd w s.size e hs).2, fun i x hx => by
    refine ⟨w.heap.size, 0, rfl, by rw [Lib.bytesWorld_size]; exact Nat.lt_succ_self _, fun j v hv => ?_⟩
    have hi : i < s.size := by have := (List.getElem?_eq_some_iff.1 hx).1; rw [Array.length_toList] at this; exact this
    obtain rfl : j = 0 := by
      rcases j with _ | j
      · rfl
      · simp at hv
    simp at hv; subst hv
    have := Lib.bytesWorld_cell w e s i hi
    simp only [Nat.zero_add, Nat.mul_one, Nat.add_zero]
    rw [this, List.getD_eq_getElem?_getD, hx]; rfl⟩

theorem below_bytes (w : World) (e : TypeId) (s : ByteArray) : RowKit.Below w.heap.size w (Lib.bytesWorld w e s) :=
  ⟨rfl, rfl, rfl, by rw [Lib.bytesWorld_size]; omega, fun k hk => Lib.bytesWorld_at_old w e s k hk⟩

set_option maxRecDepth 100000 in
set_option maxHeartbeats 400000 in
theorem isName_any (s : ByteArray) (w : World) : Calls Tryz.prog 96 #[.string s] w (Gives w (.bool (nameOk s))) := by
  have hin := in6_any
  by_cases h1 : inn s.size 1 24 = true
  · have hb : 1 ≤ s.size ∧ s.size ≤ 24 := by unfold inn at h1; simp at h1; omega
    have hcv := fun w => Lib.run_convert_string_bytes (P := Tryz.prog) w 9 162 5 s Tryz.underlying9 Tryz.underlying162 Tryz.underlying5
    have eg : ∀ args w, (callFunc 136 args).run Tryz.prog w = .ok (.enter 136 args) w := enters_of Tryz.func136 (by kernel_rfl) rfl
    have hcb := contB_any (fun c => !chOk c) 136 #[] eg _ _ _ _ _ (Lst.bytes w 5 s (by omega)) (fun W c _ => nameCh_any c W)
    have hname : nameOk s = (lowOk (s.data.toList.headD 0) && !(s.data.toList.any fun c => !chOk c)) := by
      unfold nameOk; rw [h1, Bool.true_and, List.all_eq_not_any_not]
    have hhd : s.data.toList.headD 0 = s[0]'(by omega) := by
      have : 0 < s.data.toList.length := by rw [Array.length_toList]; exact hb.1
      rw [List.headD_eq_head?_getD, List.head?_eq_getElem?, List.getElem?_eq_getElem this]; rfl
    rw [hname, hhd]
    generalize (s.data.toList.any fun c => !chOk c) = b at *
    have h1' := h1
    clear hname hhd
    go_enter Tryz.func96, Tryz.ntmps96
    go_wp2_with (first | (go_at_call 66; refine (hin _ _ _ _).mono ?_; rintro e w3 ⟨rfl, rfl⟩) | (go_at_call 135; refine hcb.mono ?_; rintro e w3 ⟨rfl, hB⟩))
    · go_ret
      have e : lowOk s[0] = false := by simp only [lowOk, decide_eq_false_iff_not]; omega
      exact ⟨ret_bool (by rw [e]; rfl), Below.refl _ _⟩
    · go_ret
      have e : lowOk s[0] = true := by simp only [lowOk, decide_eq_true_eq]; omega
      exact ⟨ret_bool (by rw [e, Bool.true_and]), (below_bytes w 5 s).trans (hB.mono (below_bytes w 5 s).size)⟩
    · go_ret
      have e : lowOk s[0] = false := by simp only [lowOk, decide_eq_false_iff_not]; omega
      exact ⟨ret_bool (by rw [e]; rfl), Below.refl _ _⟩
  · have h1' : inn s.size 1 24 = false := by simpa using h1
    have hname : nameOk s = false := by unfold nameOk; rw [h1']; rfl
    rw [hname]
    go_enter Tryz.func96, Tryz.ntmps96
    go_wp2_with (first | (go_at_call 66; refine (hin _ _ _ _).mono ?_; rintro e w3 ⟨rfl, rfl⟩))
    go_ret
    exact ⟨rfl, Below.refl _ _⟩


set_option maxRecDepth 100000 in
set_option maxHeartbeats 400000 in
theorem isPart_any (f : Frac) (w : World) : Calls Tryz.prog 97 #[aF f] w (Gives w (.bool (partOk f))) := by
  have hin := in6_any
  have hq := eqF
  have hg := guardF
  have hN := fun W => Norm_any f.num f.den W
  rw [← normF_part]
  generalize normF f.num f.den = r at *
  obtain ⟨g, e⟩ := r
  by_cases he : e = 0
  · subst he
    by_cases hf : f = g
    · have Hf := Lib.hid hf; clear hf
      have hd : decide (f = g) = true := by simpa using Hf.out
      go_enter Tryz.func97, Tryz.ntmps97
      go_wp2_with (first | (go_at_call 66; refine (hin _ _ _ _).mono ?_; rintro e w3 ⟨rfl, rfl⟩) | (go_at_call 137; refine (hN _).mono ?_; rintro e w3 ⟨rfl, hB⟩; have k3 : Blk w3 w.heap.size #[.int .i64 f.num, .int .i64 f.den] 24 := (Blk.new w _ _).below' hB; have c3 := k3.cell; have z3 := k3.lt; have hB3 := ((Below.refl _ w).alloc (Nat.le_refl _) _).trans (hB.mono (by simp))))
      go_ret
      refine ⟨ret_bool (by simp [Hf.out]), ?_⟩
      repeat (first | assumption | exact Below.refl _ _ | refine Below.alloc ?_ (by first | omega | simp <;> omega) _ | refine Below.setCell ?_ (by simp <;> omega) _ | refine Below.drew ?_)
    · have Hf := Lib.hid hf; clear hf
      have hd : decide (f = g) = false := by simpa using Hf.out
      go_enter Tryz.func97, Tryz.ntmps97
      go_wp2_with (first | (go_at_call 66; refine (hin _ _ _ _).mono ?_; rintro e w3 ⟨rfl, rfl⟩) | (go_at_call 137; refine (hN _).mono ?_; rintro e w3 ⟨rfl, hB⟩; have k3 : Blk w3 w.heap.size #[.int .i64 f.num, .int .i64 f.den] 24 := (Blk.new w _ _).below' hB; have c3 := k3.cell; have z3 := k3.lt; have hB3 := ((Below.refl _ w).alloc (Nat.le_refl _) _).trans (hB.mono (by simp))))
      go_ret
      refine ⟨ret_bool (by simp [Hf.out]), ?_⟩
      repeat (first | assumption | exact Below.refl _ _ | refine Below.alloc ?_ (by first | omega | simp <;> omega) _ | refine Below.setCell ?_ (by simp <;> omega) _ | refine Below.drew ?_)
  · have he' : (e == 0) = false := by simpa using he
    have He := Lib.hid he; clear he
    go_enter Tryz.func97, Tryz.ntmps97
    go_wp2_with (first | (go_at_call 66; refine (hin _ _ _ _).mono ?_; rintro e w3 ⟨rfl, rfl⟩) | (go_at_call 137; refine (hN _).mono ?_; rintro e w3 ⟨rfl, hB⟩; have k3 : Blk w3 w.heap.size #[.int .i64 f.num, .int .i64 f.den] 24 := (Blk.new w _ _).below' hB; have c3 := k3.cell; have z3 := k3.lt; have hB3 := ((Below.refl _ w).alloc (Nat.le_refl _) _).trans (hB.mono (by simp))))
    go_ret
    refine ⟨ret_bool (by simp [He.out]), ?_⟩
    repeat (first | assumption | exact Below.refl _ _ | refine Below.alloc ?_ (by first | omega | simp <;> omega) _ | refine Below.setCell ?_ (by simp <;> omega) _ | refine Below.drew ?_)

end Go.Proofs.YtollegoajlfdiaaGreat
