import Derived.Test.YtmeomhojbobpbaaGreatDoorPart19
import Derived.Test.YtmeomhojbobpbaaGreatDoorPart20
import Derived.Test.YtmeomhojbobpbaaGreatDoorPart21
import Derived.Test.YtmeomhojbobpbaaGreatDoorPart22
import Derived.Test.YtmeomhojbobpbaaGreatDoorPart05
import Derived.Deep.RegionHeld3
/-
  Walks: what a deed does to the shares of a package (take, leave).
-/
namespace Go.Proofs.YtmeomhojbobpbaaGreatDoor
open Go.RowKit Lg Go.Sort Go.Shelf

/-- The cells of shares. -/
abbrev cSs (s : List Frac) : Array Value := (s.flatMap cF).toArray

theorem setF_flat : ∀ (s : List Frac) (i : Nat) (f : Frac), ((s.flatMap cF).set (i * 2) (.int .i64 f.num)).set (i * 2 + 1) (.int .i64 f.den) = (s.set i f).flatMap cF
  | [], i, f => by simp
  | x :: s, 0, f => by simp
  | x :: s, i + 1, f => by
    have := setF_flat s i f
    rw [show (i + 1) * 2 = i * 2 + 2 by omega]
    simp only [List.flatMap_cons, cF, List.cons_append, List.nil_append, List.set_cons_succ, this]

theorem setAll_shares (s : List Frac) (i : Nat) (f : Frac) : setAll (cSs s) (i * 2) (cF f) = cSs (s.set i f) := by
  unfold cSs
  rw [← setF_flat]
  simp [setAll]

theorem fr_get (s : List Frac) (i : Nat) (h : i < s.length) : s[i]? = some (fr s (i : Int)) := by
  simp [fr, h]

theorem cell_share {w : World} {B : Nat} {s : List Frac} (k : Blk w B (cSs s) 113) (i : Nat) (h : i < s.length) : w.rangeAt B (i * 2) (cF (fr s (i : Int))) :=
  k.range (i * 2) _ (fun j v hj => by
    have := flat_put cF 2 (fun _ => rfl) s i j (fr s (i : Int)) v (fr_get s i h) hj
    simpa using this)

theorem there_share {w : World} {B : Nat} {s : List Frac} (k : Blk w B (cSs s) 113) (i : Nat) (h : i < s.length) : w.there B (i * 2) 2 :=
  k.there (i * 2) 2 (by simp only [List.size_toArray]; rw [flat_len cF 2 (fun _ => rfl)]; omega)

set_option maxRecDepth 100000 in
set_option maxHeartbeats 1600000 in
theorem takeD_ok (s : List Frac) (i kn ho kd lo pa : Int) (ff tt : Nat) (sn sd o : Int) (B : Nat) (w : World) (hs : s.length = 41) (hk : Blk w B (cSs s) 113) (hf : ff < 41) (ht : tt < 41) (fa fb part a b : Frac)
    (hfa : fa = fr s (ff : Int)) (hfb : fb = fr s (tt : Int)) (oa : frOk fa) (ob : frOk fb) (os : frOk ⟨sn, sd⟩) (op : frOk part) (h1 : timesO ⟨sn, sd⟩ fa = some part) (h2 : plusO fa (negF part) = some a) (h3 : plusO fb part = some b) :
    Calls Tryz.prog 211 #[.pointer (some ⟨B, 0, none⟩), aD ⟨i, kn, ho, kd, lo, pa, (ff : Int), (tt : Int), ⟨sn, sd⟩, o⟩] w fun e w' =>
      e = .returned (.tuple #[]) ∧ Blk w' B (cSs ((s.set ff a).set tt b)) 113 ∧ w.grownBy w' (some B) := by
  have HT := fun W => timesO_ok ⟨sn, sd⟩ fa part W os oa h1
  have HM := fun W => minusO_ok fa part a W oa op h2
  have HP := fun W => plusO_ok fb part b W ob op h3
  clear h1 h2 h3 oa ob os op
  have R1 : w.rangeAt B (ff * 2) (cF fa) := by rw [hfa]; exact cell_share hk ff (by omega)
  have R2 : w.rangeAt B (tt * 2) (cF fb) := by rw [hfb]; exact cell_share hk tt (by omega)
  have hBl := hk.lt
  have Hfa := Lib.hid hfa
  have Hfb := Lib.hid hfb
  clear hfa hfb
  obtain ⟨w0, hw0⟩ : ∃ w0, w0 = w.alloc (.cells #[.int .i64 i, .int .i64 kn, .int .i64 ho, .int .u8 kd, .int .i64 lo, .int .i64 pa, .int .i64 ff, .int .i64 tt, .int .i64 sn, .int .i64 sd, .int .i64 o] 36) := ⟨_, rfl⟩
  have k0 : Blk w0 w.heap.size #[.int .i64 i, .int .i64 kn, .int .i64 ho, .int .u8 kd, .int .i64 lo, .int .i64 pa, .int .i64 ff, .int .i64 tt, .int .i64 sn, .int .i64 sd, .int .i64 o] 36 := hw0 ▸ Blk.new _ _ _
  have hB0 : RowKit.Below w.heap.size w w0 := hw0 ▸ (Below.refl _ w).alloc (Nat.le_refl _) _
  have kB := hk.below' hB0
  clear hk
  have hne : B ≠ w.heap.size := by omega
  go_enter Tryz.func211, Tryz.ntmps211
  go_upto_region 1 with fail
  rw [← hw0]
  clear hw0
  obtain ⟨bx, hbx⟩ : ∃ b, b = w.heap.size := ⟨_, rfl⟩
  rw [← hbx] at k0 hne ⊢
  clear hbx
  have HS : ∀ W, RowKit.Below w0.heap.size w0 W → W.cell? ⟨bx, 6, none⟩ = some (.int .i64 ff) ∧ W.cell? ⟨bx, 8, none⟩ = some (.int .i64 sn) ∧ W.cell? ⟨bx, 9, none⟩ = some (.int .i64 sd) ∧ W.cell? ⟨B, ff * 2, none⟩ = some (.int .i64 fa.num) ∧ W.cell? ⟨B, ff * 2 + 1, none⟩ = some (.int .i64 fa.den) :=
    fun W h => ⟨(k0.below' h).cell 6, (k0.below' h).cell 8, (k0.below' h).cell 9, rangeAt_below (hB0.trans (h.mono hB0.size)) hBl R1 0 _ rfl, rangeAt_below (hB0.trans (h.mono hB0.size)) hBl R1 1 _ rfl⟩
  have HS := Lib.hid HS
  have HT := Lib.hid (fun W (h : RowKit.Below w0.heap.size w0 W) => (HT W).mono (R' := fun e w' => e = .returned (aF part) ∧ RowKit.Below W.heap.size W w' ∧ RowKit.Below w0.heap.size w0 w') fun _ _ q => ⟨q.1, q.2, h.trans (q.2.mono h.size)⟩)
  go_cut [4] (fun c4 W => ∃ bp, c4 = .pointer (some ⟨bp, 0, none⟩) ∧ w0.heap.size ≤ bp ∧ Blk W bp #[.int .i64 part.num, .int .i64 part.den] 83 ∧ RowKit.Below w0.heap.size w0 W)
  case first =>
    have hz0 : (0 : Int) ≤ (ff : Int) := by omega
    have hz1 : (ff : Int) < 41 := by omega
    have KX := Lib.hid (fun W (h : RowKit.Below w0.heap.size w0 W) => k0.below' h)
    have KR := Lib.hid (fun W (h : RowKit.Below w0.heap.size w0 W) => rangeAt_below (hB0.trans (h.mono hB0.size)) hBl R1)
    clear HM HP R1 R2 k0 kB hB0 hne hs hf ht HS
    refine wp_region_T (fun W => RowKit.Below w0.heap.size w0 W) (fun _ => True) 10 (by kernel_rfl) (Below.refl _ _).drew trivial (fun hS hT => ?_)
    refine wpAnyT_take (i := 0) (v := .pointer (some ⟨bx, 8, none⟩)) rfl (by kernel_rfl) (by kernel_rfl) (by kernel_rfl) (by kernel_rfl) rfl (by kernel_rfl) (fun _ _ _ h => h) (Or.inl ⟨by kernel_rfl, fun _ _ => by kernel_rfl⟩) hS hT ?_
    try dsimp only
    try simp only [Act.put, List.setIfInBounds_toArray]
    refine wpAnyT_take (i := 1) (v := .agg [.int .i64 sn, .int .i64 sd].toArray) rfl (by kernel_rfl) (by kernel_rfl) (by kernel_rfl) (by kernel_rfl) rfl (by kernel_rfl) (fun _ _ _ h => h) (yields_load 25 (.tmp 5) rfl bx (8) (by kernel_rfl) [.int .i64 sn, .int .i64 sd] _ (by kernel_rfl) (fun W hW => (KX.out W hW.1).range 8 _ (fun j v h => by rcases j with _ | _ | j <;> simp at h <;> subst h <;> rfl)) Tryz.underlying25 rfl (by kernel_rfl)) hS hT ?_
    try dsimp only
    try simp only [Act.put]
    refine wpAnyT_take (i := 2) (v := .pointer (some ⟨B, 0, none⟩)) rfl (by kernel_rfl) (by kernel_rfl) (by kernel_rfl) (by kernel_rfl) rfl (by kernel_rfl) (fun _ _ _ h => h) (Or.inl ⟨by kernel_rfl, fun _ _ => by kernel_rfl⟩) hS hT ?_
    try dsimp only
    try simp only [Act.put]
    refine wpAnyT_take (i := 3) (v := .pointer (some ⟨bx, 6, none⟩)) rfl (by kernel_rfl) (by kernel_rfl) (by kernel_rfl) (by kernel_rfl) rfl (by kernel_rfl) (fun _ _ _ h => h) (Or.inl ⟨by kernel_rfl, fun _ _ => by kernel_rfl⟩) hS hT ?_
    try dsimp only
    try simp only [Act.put]
    refine wpAnyT_take (i := 4) (v := .int .i64 ff) rfl (by kernel_rfl) (by kernel_rfl) (by kernel_rfl) (by kernel_rfl) rfl (by kernel_rfl) (fun _ _ _ h => h) (Or.inl ⟨by kernel_rfl, fun W hW => by have e := (KX.out W hW.1).cell 6; go_simp⟩) hS hT ?_
    try dsimp only
    try simp only [Act.put]
    refine wpAnyT_take (i := 5) (v := .pointer (some ⟨B, 0, none⟩)) rfl (by kernel_rfl) (by kernel_rfl) (by kernel_rfl) (by kernel_rfl) rfl (by kernel_rfl) (fun _ _ _ h => h) (Or.inl ⟨by kernel_rfl, fun _ _ => by kernel_rfl⟩) hS hT ?_
    try dsimp only
    try simp only [Act.put]
    refine wpAnyT_take (i := 6) (v := .pointer (some ⟨B, ff * 2, none⟩)) rfl (by kernel_rfl) (by kernel_rfl) (by kernel_rfl) (by kernel_rfl) rfl (by kernel_rfl) (fun _ _ _ h => h) (Or.inl ⟨by kernel_rfl, fun W _ => by go_simp⟩) hS hT ?_
    try dsimp only
    try simp only [Act.put]
    refine wpAnyT_take (i := 7) (v := .agg (cF fa).toArray) rfl (by kernel_rfl) (by kernel_rfl) (by kernel_rfl) (by kernel_rfl) rfl (by kernel_rfl) (fun _ _ _ h => h) (yields_load 83 (.tmp 11) rfl B (ff * 2) (by kernel_rfl) (cF fa) _ (by kernel_rfl) (fun W hW => KR.out W hW.1) Tryz.underlying83 rfl (by kernel_rfl)) hS hT ?_
    try dsimp only
    try simp only [Act.put]
    refine wpAnyT_two (j := 8) (k := 9) rfl rfl (by kernel_rfl) (by kernel_rfl) (by kernel_rfl) (fun K hK => ?_) (fun K hK => ?_)
    · go_simp
      refine (HT.out _ (by repeat (first | (with_reducible assumption) | (with_reducible exact Below.refl _ _) | (with_reducible refine Below.alloc ?_ ?_ _) | (with_reducible refine Below.setCell ?_ ?_ _) | (with_reducible refine Below.drew ?_) | omega | (simp <;> omega) | (dsimp only; omega)))).mono ?_
      rintro e w3 ⟨rfl, hBa, hba⟩
      have hsa := hba.size
      refine hK.out _ _ hba (fun _ => trivial) ?_
      try dsimp only
      try simp only [Act.put, List.setIfInBounds_toArray, List.set_cons_zero, List.set_cons_succ]
      refine wpAnyT_one (j := 9) rfl (by kernel_rfl) (by kernel_rfl) (fun K hK => ?_)
      go_simp
      refine hK.out _ _ (hba.alloc hba.size _) (fun _ => trivial) ?_
      try dsimp only
      try simp only [Act.put, List.setIfInBounds_toArray, List.set_cons_zero, List.set_cons_succ]
      refine wpAnyT_one (j := 10) rfl (by kernel_rfl) (by kernel_rfl) (fun K hK => ?_)
      refine oper_store_mid 83 _ _ rfl w3.heap.size 0 #[.int .i64 part.num, .int .i64 part.den] rfl rfl ((Blk.new w3 _ _).there 0 2 (by simp)) (by kernel_rfl) (by simp [Value.oneCell']) ?_
      refine hK.out _ _ (below_setCells (hba.alloc hba.size _) hba.size 0 _) (fun _ => trivial) ?_
      try dsimp only
      try simp only [Act.put, List.setIfInBounds_toArray]
      refine wpAnyT_done (by kernel_rfl) ?_ _
      go_wp2_with fail
      go_meet
      exact ⟨_, rfl, hba.size, (Blk.new w3 _ _).setCells 0 _, below_setCells (hba.alloc hba.size _) hba.size 0 _⟩
    · go_simp
      refine hK.out _ _ (by repeat (first | (with_reducible assumption) | (with_reducible exact Below.refl _ _) | (with_reducible refine Below.alloc ?_ ?_ _) | (with_reducible refine Below.setCell ?_ ?_ _) | (with_reducible refine Below.drew ?_) | omega | (simp <;> omega) | (dsimp only; omega))) (fun _ => trivial) ?_
      try dsimp only
      try simp only [Act.put, List.setIfInBounds_toArray, List.set_cons_zero, List.set_cons_succ]
      refine wpAnyT_one (j := 8) rfl (by kernel_rfl) (by kernel_rfl) (fun K hK => ?_)
      go_simp
      refine (HT.out _ (by repeat (first | (with_reducible assumption) | (with_reducible exact Below.refl _ _) | (with_reducible refine Below.alloc ?_ ?_ _) | (with_reducible refine Below.setCell ?_ ?_ _) | (with_reducible refine Below.drew ?_) | omega | (simp <;> omega) | (dsimp only; omega)))).mono ?_
      rintro e w3 ⟨rfl, hBa, hba⟩
      have hsa := hba.size
      refine hK.out _ _ hba (fun _ => trivial) ?_
      try dsimp only
      try simp only [Act.put, List.setIfInBounds_toArray, List.set_cons_zero, List.set_cons_succ]
      have kq : Blk w3 w0.heap.size #[.int .i64 0, .int .i64 0] 83 := Blk.below' (Blk.drew (Blk.new _ _ _)) hBa
      refine wpAnyT_one (j := 10) rfl (by kernel_rfl) (by kernel_rfl) (fun K hK => ?_)
      refine oper_store_mid 83 _ _ rfl w0.heap.size 0 #[.int .i64 part.num, .int .i64 part.den] rfl rfl (kq.there 0 2 (by simp)) (by kernel_rfl) (by simp [Value.oneCell']) ?_
      refine hK.out _ _ (below_setCells hba (Nat.le_refl _) 0 _) (fun _ => trivial) ?_
      try dsimp only
      try simp only [Act.put, List.setIfInBounds_toArray]
      refine wpAnyT_done (by kernel_rfl) ?_ _
      go_wp2_with fail
      go_meet
      exact ⟨_, rfl, Nat.le_refl _, kq.setCells 0 _, below_setCells hba (Nat.le_refl _) 0 _⟩
  case rest =>
    obtain ⟨bp, rfl, hbp, kp, hBc⟩ := hcut
    have kX := k0.below' hBc
    have kS := kB.below' hBc
    have hbp2 := kp.lt
    have hB1 := hB0.trans (hBc.mono hB0.size)
    have hnp : bp ≠ B := by have := hB0.size; omega
    clear k0 kB hB0 hBc HT R1 R2 HS hbp
    obtain ⟨w1, hw1⟩ : ∃ w1, w1 = wc := ⟨_, rfl⟩
    rw [← hw1] at kX kS kp hB1 hbp2 ⊢
    clear hw1
    have hz0 : (0 : Int) ≤ (ff : Int) := by omega
    have hz1 : (ff : Int) < 41 := by omega
    have hy0 : (0 : Int) ≤ (tt : Int) := by omega
    have hy1 : (tt : Int) < 41 := by omega
    have RF := Lib.hid (fun W (k : Blk W B (cSs s) 113) => show W.rangeAt B (ff * 2) (cF fa) by rw [Hfa.out]; exact cell_share k ff (by omega))
    have RT := Lib.hid (fun W (k : Blk W B (cSs s) 113) => show W.rangeAt B (tt * 2) (cF fb) by rw [Hfb.out]; exact cell_share k tt (by omega))
    have TF := Lib.hid (fun W (l : List Frac) (hl : l.length = 41) (k : Blk W B (cSs l) 113) => there_share k ff (by omega))
    have TT := Lib.hid (fun W (l : List Frac) (hl : l.length = 41) (k : Blk W B (cSs l) 113) => there_share k tt (by omega))
    clear Hfa Hfb
    go_upto_region 2 with fail
    refine wp_region_T (fun W => Blk W bx #[.int .i64 i, .int .i64 kn, .int .i64 ho, .int .u8 kd, .int .i64 lo, .int .i64 pa, .int .i64 ff, .int .i64 tt, .int .i64 sn, .int .i64 sd, .int .i64 o] 36 ∧ Blk W bp #[.int .i64 part.num, .int .i64 part.den] 83 ∧ w1.grownBy W (some B)) (fun W => Blk W B (cSs s) 113) 24 (by kernel_rfl) ⟨kX, kp, grown_of_below _ (Below.refl _ _).drew⟩ kS (fun hS hT => ?_)
    refine wpAnyT_takeS (i := 0) (v := .pointer (some ⟨B, 0, none⟩)) rfl (by kernel_rfl) (by kernel_rfl) (by kernel_rfl) rfl (fun _ _ _ h => h) (Or.inl ⟨by kernel_rfl, fun _ _ => by kernel_rfl⟩) hS (fun _ => hT) ?_
    try dsimp only
    try simp only [Act.put, List.setIfInBounds_toArray]
    refine wpAnyT_takeS (i := 1) (v := .pointer (some ⟨bx, 6, none⟩)) rfl (by kernel_rfl) (by kernel_rfl) (by kernel_rfl) rfl (fun _ _ _ h => h) (Or.inl ⟨by kernel_rfl, fun _ _ => by kernel_rfl⟩) hS (fun _ => hT) ?_
    try dsimp only
    try simp only [Act.put]
    refine wpAnyT_takeS (i := 2) (v := .int .i64 ff) rfl (by kernel_rfl) (by kernel_rfl) (by kernel_rfl) rfl (fun _ _ _ h => h) (Or.inl ⟨by kernel_rfl, fun W hW => by have e := hW.1.cell 6; go_simp⟩) hS (fun _ => hT) ?_
    try dsimp only
    try simp only [Act.put]
    refine wpAnyT_takeS (i := 3) (v := .pointer (some ⟨B, 0, none⟩)) rfl (by kernel_rfl) (by kernel_rfl) (by kernel_rfl) rfl (fun _ _ _ h => h) (Or.inl ⟨by kernel_rfl, fun _ _ => by kernel_rfl⟩) hS (fun _ => hT) ?_
    try dsimp only
    try simp only [Act.put]
    refine wpAnyT_takeS (i := 4) (v := .pointer (some ⟨bx, 7, none⟩)) rfl (by kernel_rfl) (by kernel_rfl) (by kernel_rfl) rfl (fun _ _ _ h => h) (Or.inl ⟨by kernel_rfl, fun _ _ => by kernel_rfl⟩) hS (fun _ => hT) ?_
    try dsimp only
    try simp only [Act.put]
    refine wpAnyT_takeS (i := 5) (v := .int .i64 tt) rfl (by kernel_rfl) (by kernel_rfl) (by kernel_rfl) rfl (fun _ _ _ h => h) (Or.inl ⟨by kernel_rfl, fun W hW => by have e := hW.1.cell 7; go_simp⟩) hS (fun _ => hT) ?_
    try dsimp only
    try simp only [Act.put]
    refine wpAnyT_takeS (i := 6) (v := .pointer (some ⟨B, 0, none⟩)) rfl (by kernel_rfl) (by kernel_rfl) (by kernel_rfl) rfl (fun _ _ _ h => h) (Or.inl ⟨by kernel_rfl, fun _ _ => by kernel_rfl⟩) hS (fun _ => hT) ?_
    try dsimp only
    try simp only [Act.put]
    refine wpAnyT_takeS (i := 7) (v := .pointer (some ⟨bx, 6, none⟩)) rfl (by kernel_rfl) (by kernel_rfl) (by kernel_rfl) rfl (fun _ _ _ h => h) (Or.inl ⟨by kernel_rfl, fun _ _ => by kernel_rfl⟩) hS (fun _ => hT) ?_
    try dsimp only
    try simp only [Act.put]
    refine wpAnyT_takeS (i := 8) (v := .int .i64 ff) rfl (by kernel_rfl) (by kernel_rfl) (by kernel_rfl) rfl (fun _ _ _ h => h) (Or.inl ⟨by kernel_rfl, fun W hW => by have e := hW.1.cell 6; go_simp⟩) hS (fun _ => hT) ?_
    try dsimp only
    try simp only [Act.put]
    refine wpAnyT_takeS (i := 9) (v := .pointer (some ⟨B, 0, none⟩)) rfl (by kernel_rfl) (by kernel_rfl) (by kernel_rfl) rfl (fun _ _ _ h => h) (Or.inl ⟨by kernel_rfl, fun _ _ => by kernel_rfl⟩) hS (fun _ => hT) ?_
    try dsimp only
    try simp only [Act.put]
    refine wpAnyT_takeS (i := 10) (v := .pointer (some ⟨B, ff * 2, none⟩)) rfl (by kernel_rfl) (by kernel_rfl) (by kernel_rfl) rfl (fun _ _ _ h => h) (Or.inl ⟨by kernel_rfl, fun W _ => by go_simp⟩) hS (fun _ => hT) ?_
    try dsimp only
    try simp only [Act.put]
    refine wpAnyT_take (i := 11) (v := .agg (cF fa).toArray) rfl (by kernel_rfl) (by kernel_rfl) (by kernel_rfl) (by kernel_rfl) rfl (by kernel_rfl) (fun _ _ _ h => h) (yields_load 83 (.tmp 24) rfl B (ff * 2) (by kernel_rfl) (cF fa) _ (by kernel_rfl) (fun W hW => RF.out W hW.2) Tryz.underlying83 rfl (by kernel_rfl)) hS hT ?_
    try dsimp only
    try simp only [Act.put]
    refine wpAnyT_takeS (i := 12) (v := .agg (cF part).toArray) rfl (by kernel_rfl) (by kernel_rfl) (by kernel_rfl) rfl (fun _ _ _ h => h) (yields_load 83 (.tmp 4) rfl bp (0) (by kernel_rfl) (cF part) _ (by kernel_rfl) (fun W hW => hW.2.1.range 0 _ (fun j v h => by simpa using h)) Tryz.underlying83 rfl (by kernel_rfl)) hS (fun _ => hT) ?_
    try dsimp only
    try simp only [Act.put]
    refine wpAnyT_takeS (i := 14) (v := .pointer (some ⟨B, 0, none⟩)) rfl (by kernel_rfl) (by kernel_rfl) (by kernel_rfl) rfl (fun _ _ _ h => h) (Or.inl ⟨by kernel_rfl, fun _ _ => by kernel_rfl⟩) hS (fun _ => hT) ?_
    try dsimp only
    try simp only [Act.put]
    refine wpAnyT_takeS (i := 15) (v := .pointer (some ⟨bx, 7, none⟩)) rfl (by kernel_rfl) (by kernel_rfl) (by kernel_rfl) rfl (fun _ _ _ h => h) (Or.inl ⟨by kernel_rfl, fun _ _ => by kernel_rfl⟩) hS (fun _ => hT) ?_
    try dsimp only
    try simp only [Act.put]
    refine wpAnyT_takeS (i := 16) (v := .int .i64 tt) rfl (by kernel_rfl) (by kernel_rfl) (by kernel_rfl) rfl (fun _ _ _ h => h) (Or.inl ⟨by kernel_rfl, fun W hW => by have e := hW.1.cell 7; go_simp⟩) hS (fun _ => hT) ?_
    try dsimp only
    try simp only [Act.put]
    refine wpAnyT_takeS (i := 17) (v := .pointer (some ⟨B, 0, none⟩)) rfl (by kernel_rfl) (by kernel_rfl) (by kernel_rfl) rfl (fun _ _ _ h => h) (Or.inl ⟨by kernel_rfl, fun _ _ => by kernel_rfl⟩) hS (fun _ => hT) ?_
    try dsimp only
    try simp only [Act.put]
    refine wpAnyT_takeS (i := 18) (v := .pointer (some ⟨B, tt * 2, none⟩)) rfl (by kernel_rfl) (by kernel_rfl) (by kernel_rfl) rfl (fun _ _ _ h => h) (Or.inl ⟨by kernel_rfl, fun W _ => by go_simp⟩) hS (fun _ => hT) ?_
    try dsimp only
    try simp only [Act.put]
    refine wpAnyT_take (i := 19) (v := .agg (cF fb).toArray) rfl (by kernel_rfl) (by kernel_rfl) (by kernel_rfl) (by kernel_rfl) rfl (by kernel_rfl) (fun _ _ _ h => h) (yields_load 83 (.tmp 32) rfl B (tt * 2) (by kernel_rfl) (cF fb) _ (by kernel_rfl) (fun W hW => RT.out W hW.2) Tryz.underlying83 rfl (by kernel_rfl)) hS hT ?_
    try dsimp only
    try simp only [Act.put]
    refine wpAnyT_takeS (i := 20) (v := .agg (cF part).toArray) rfl (by kernel_rfl) (by kernel_rfl) (by kernel_rfl) rfl (fun _ _ _ h => h) (yields_load 83 (.tmp 4) rfl bp (0) (by kernel_rfl) (cF part) _ (by kernel_rfl) (fun W hW => hW.2.1.range 0 _ (fun j v h => by simpa using h)) Tryz.underlying83 rfl (by kernel_rfl)) hS (fun _ => hT) ?_
    try dsimp only
    try simp only [Act.put]
    refine wpAnyT_takeS (i := 22) (v := .pointer (some ⟨B, 0, none⟩)) rfl (by kernel_rfl) (by kernel_rfl) (by kernel_rfl) rfl (fun _ _ _ h => h) (Or.inl ⟨by kernel_rfl, fun _ _ => by kernel_rfl⟩) hS (fun _ => hT) ?_
    try dsimp only
    try simp only [Act.put]
    refine wpAnyT_takeS (i := 25) (v := .pointer (some ⟨B, 0, none⟩)) rfl (by kernel_rfl) (by kernel_rfl) (by kernel_rfl) rfl (fun _ _ _ h => h) (Or.inl ⟨by kernel_rfl, fun _ _ => by kernel_rfl⟩) hS (fun _ => hT) ?_
    try dsimp only
    try simp only [Act.put]
    refine wpAnyT_one (j := 13) rfl (by kernel_rfl) (by kernel_rfl) (fun K hK => ?_)
    go_simp
    refine (HM _).mono ?_
    rintro e w3 ⟨rfl, hb⟩
    have hS := And.intro (hS.1.below' hb) (And.intro (hS.2.1.below' hb) (grown_trans hS.2.2 (grown_of_below _ hb)))
    have hT := hT.below' hb
    refine hK.out _ _ hS (fun _ => hT) ?_
    try dsimp only
    try simp only [Act.put, List.setIfInBounds_toArray, List.set_cons_zero, List.set_cons_succ]
    refine wpAnyT_one (j := 21) rfl (by kernel_rfl) (by kernel_rfl) (fun K hK => ?_)
    go_simp
    refine (HP _).mono ?_
    rintro e w4 ⟨rfl, hb⟩
    have hS := And.intro (hS.1.below' hb) (And.intro (hS.2.1.below' hb) (grown_trans hS.2.2 (grown_of_below _ hb)))
    have hT := hT.below' hb
    refine hK.out _ _ hS (fun _ => hT) ?_
    try dsimp only
    try simp only [Act.put, List.setIfInBounds_toArray, List.set_cons_zero, List.set_cons_succ]
    refine wpAnyT_takeS (i := 23) (v := .pointer (some ⟨B, ff * 2, none⟩)) rfl (by kernel_rfl) (by kernel_rfl) (by kernel_rfl) rfl (fun _ _ _ h => h) (Or.inl ⟨by kernel_rfl, fun W _ => by go_simp⟩) hS (fun _ => hT) ?_
    try dsimp only
    try simp only [Act.put, List.setIfInBounds_toArray]
    refine wpAnyT_one (j := 24) rfl (by kernel_rfl) (by kernel_rfl) (fun K hK => ?_)
    refine oper_store_mid 83 _ _ rfl B (ff * 2) #[.int .i64 a.num, .int .i64 a.den] rfl rfl (TF.out _ s hs hT) (by kernel_rfl) (by simp [Value.oneCell']) ?_
    have kS1 : Blk (w4.setCells B (ff * 2) (cF a)) B (cSs (s.set ff a)) 113 := by
      have q := hT.setCells (ff * 2) (cF a)
      rwa [setAll_shares] at q
    have hS1 := And.intro (hS.1.setCells_other (Ne.symm hne) (ff * 2) (cF a)) (And.intro (hS.2.1.setCells_other hnp (ff * 2) (cF a)) (grown_trans hS.2.2 (grownBy_setCells w4 B (ff * 2) (cF a))))
    refine hK.out _ _ hS1 (fun q => by cases (show (true : Bool) = false from q)) ?_
    try dsimp only
    try simp only [Act.put]
    refine wpAnyT_takeS (i := 26) (v := .pointer (some ⟨B, tt * 2, none⟩)) rfl (by kernel_rfl) (by kernel_rfl) (by kernel_rfl) rfl (fun _ _ _ h => h) (Or.inl ⟨by kernel_rfl, fun W _ => by go_simp⟩) hS1 (fun q => by cases (show (true : Bool) = false from q)) ?_
    try dsimp only
    try simp only [Act.put]
    refine wpAnyT_one (j := 27) rfl (by kernel_rfl) (by kernel_rfl) (fun K hK => ?_)
    refine oper_store_mid 83 _ _ rfl B (tt * 2) #[.int .i64 b.num, .int .i64 b.den] rfl rfl (TT.out _ (s.set ff a) (by rw [List.length_set]; exact hs) kS1) (by kernel_rfl) (by simp [Value.oneCell']) ?_
    have kS2 : Blk ((w4.setCells B (ff * 2) (cF a)).setCells B (tt * 2) (cF b)) B (cSs ((s.set ff a).set tt b)) 113 := by
      have q := kS1.setCells (tt * 2) (cF b)
      rwa [setAll_shares] at q
    have hS2 := And.intro (hS1.1.setCells_other (Ne.symm hne) (tt * 2) (cF b)) (And.intro (hS1.2.1.setCells_other hnp (tt * 2) (cF b)) (grown_trans hS1.2.2 (grownBy_setCells _ B (tt * 2) (cF b))))
    refine hK.out _ _ hS2 (fun q => by cases (show (true : Bool) = false from q)) ?_
    try dsimp only
    try simp only [Act.put]
    refine wpAnyT_done (by kernel_rfl) ?_ _
    have hfin := And.intro kS2 (grown_trans (grown_of_below _ hB1) hS2.2.2)
    clear hK hS1 hS2 kS1 kS2 hS hT RF RT TF TT HM HP
    go_end0
    exact ⟨rfl, hfin⟩

set_option maxRecDepth 100000 in
set_option maxHeartbeats 1600000 in
theorem leaveD_ok (s : List Frac) (i kn ho kd lo pa : Int) (ff tt : Nat) (sn sd o : Int) (B : Nat) (w : World) (hs : s.length = 41) (hk : Blk w B (cSs s) 113) (hf : ff < 41) (ht : tt < 41) (fa fb b : Frac)
    (hfa : fa = fr s (ff : Int)) (hfb : fb = fr s (tt : Int)) (oa : frOk fa) (ob : frOk fb) (h3 : plusO fb fa = some b) :
    Calls Tryz.prog 212 #[.pointer (some ⟨B, 0, none⟩), aD ⟨i, kn, ho, kd, lo, pa, (ff : Int), (tt : Int), ⟨sn, sd⟩, o⟩] w fun e w' =>
      e = .returned (.tuple #[]) ∧ Blk w' B (cSs ((s.set ff ⟨0, 1⟩).set tt b)) 113 ∧ w.grownBy w' (some B) := by
  have HP := fun W => plusO_ok fb fa b W ob oa h3
  clear h3 oa ob
  have hBl := hk.lt
  have Hfa := Lib.hid hfa
  have Hfb := Lib.hid hfb
  clear hfa hfb
  obtain ⟨w1, hw1⟩ : ∃ w0, w0 = w.alloc (.cells #[.int .i64 i, .int .i64 kn, .int .i64 ho, .int .u8 kd, .int .i64 lo, .int .i64 pa, .int .i64 ff, .int .i64 tt, .int .i64 sn, .int .i64 sd, .int .i64 o] 36) := ⟨_, rfl⟩
  have kX : Blk w1 w.heap.size #[.int .i64 i, .int .i64 kn, .int .i64 ho, .int .u8 kd, .int .i64 lo, .int .i64 pa, .int .i64 ff, .int .i64 tt, .int .i64 sn, .int .i64 sd, .int .i64 o] 36 := hw1 ▸ Blk.new _ _ _
  have hB1 : RowKit.Below w.heap.size w w1 := hw1 ▸ (Below.refl _ w).alloc (Nat.le_refl _) _
  have kS := hk.below' hB1
  clear hk
  have hne : B ≠ w.heap.size := by omega
  go_enter Tryz.func212, Tryz.ntmps212
  go_upto_region 1 with fail
  rw [← hw1]
  clear hw1
  obtain ⟨bx, hbx⟩ : ∃ b, b = w.heap.size := ⟨_, rfl⟩
  rw [← hbx] at kX hne ⊢
  clear hbx
  have hz0 : (0 : Int) ≤ (ff : Int) := by omega
  have hz1 : (ff : Int) < 41 := by omega
  have hy0 : (0 : Int) ≤ (tt : Int) := by omega
  have hy1 : (tt : Int) < 41 := by omega
  have RF := Lib.hid (fun W (k : Blk W B (cSs s) 113) => show W.rangeAt B (ff * 2) (cF fa) by rw [Hfa.out]; exact cell_share k ff (by omega))
  have RT := Lib.hid (fun W (k : Blk W B (cSs s) 113) => show W.rangeAt B (tt * 2) (cF fb) by rw [Hfb.out]; exact cell_share k tt (by omega))
  have TF := Lib.hid (fun W (l : List Frac) (hl : l.length = 41) (k : Blk W B (cSs l) 113) => there_share k ff (by omega))
  have TT := Lib.hid (fun W (l : List Frac) (hl : l.length = 41) (k : Blk W B (cSs l) 113) => there_share k tt (by omega))
  clear Hfa Hfb
  refine wp_region_T (fun W => Blk W bx #[.int .i64 i, .int .i64 kn, .int .i64 ho, .int .u8 kd, .int .i64 lo, .int .i64 pa, .int .i64 ff, .int .i64 tt, .int .i64 sn, .int .i64 sd, .int .i64 o] 36 ∧ w1.grownBy W (some B)) (fun W => Blk W B (cSs s) 113) 22 (by kernel_rfl) ⟨kX, grown_of_below _ (Below.refl _ _).drew⟩ kS (fun hS hT => ?_)
  refine wpAnyT_takeS (i := 0) (v := .pointer (some ⟨B, 0, none⟩)) rfl (by kernel_rfl) (by kernel_rfl) (by kernel_rfl) rfl (fun _ _ _ h => h) (Or.inl ⟨by kernel_rfl, fun _ _ => by kernel_rfl⟩) hS (fun _ => hT) ?_
  try dsimp only
  try simp only [Act.put, List.setIfInBounds_toArray]
  refine wpAnyT_takeS (i := 1) (v := .pointer (some ⟨bx, 6, none⟩)) rfl (by kernel_rfl) (by kernel_rfl) (by kernel_rfl) rfl (fun _ _ _ h => h) (Or.inl ⟨by kernel_rfl, fun _ _ => by kernel_rfl⟩) hS (fun _ => hT) ?_
  try dsimp only
  try simp only [Act.put]
  refine wpAnyT_takeS (i := 2) (v := .int .i64 ff) rfl (by kernel_rfl) (by kernel_rfl) (by kernel_rfl) rfl (fun _ _ _ h => h) (Or.inl ⟨by kernel_rfl, fun W hW => by have e := hW.1.cell 6; go_simp⟩) hS (fun _ => hT) ?_
  try dsimp only
  try simp only [Act.put]
  refine wpAnyT_takeS (i := 3) (v := .pointer (some ⟨B, 0, none⟩)) rfl (by kernel_rfl) (by kernel_rfl) (by kernel_rfl) rfl (fun _ _ _ h => h) (Or.inl ⟨by kernel_rfl, fun _ _ => by kernel_rfl⟩) hS (fun _ => hT) ?_
  try dsimp only
  try simp only [Act.put]
  refine wpAnyT_takeS (i := 4) (v := .pointer (some ⟨bx, 7, none⟩)) rfl (by kernel_rfl) (by kernel_rfl) (by kernel_rfl) rfl (fun _ _ _ h => h) (Or.inl ⟨by kernel_rfl, fun _ _ => by kernel_rfl⟩) hS (fun _ => hT) ?_
  try dsimp only
  try simp only [Act.put]
  refine wpAnyT_takeS (i := 5) (v := .int .i64 tt) rfl (by kernel_rfl) (by kernel_rfl) (by kernel_rfl) rfl (fun _ _ _ h => h) (Or.inl ⟨by kernel_rfl, fun W hW => by have e := hW.1.cell 7; go_simp⟩) hS (fun _ => hT) ?_
  try dsimp only
  try simp only [Act.put]
  refine wpAnyT_takeS (i := 6) (v := .agg #[.int .i64 0, .int .i64 1]) rfl (by kernel_rfl) (by kernel_rfl) (by kernel_rfl) rfl (fun _ _ _ h => h) (Or.inl ⟨by kernel_rfl, fun _ _ => by kernel_rfl⟩) hS (fun _ => hT) ?_
  try dsimp only
  try simp only [Act.put]
  refine wpAnyT_takeS (i := 7) (v := .pointer (some ⟨B, 0, none⟩)) rfl (by kernel_rfl) (by kernel_rfl) (by kernel_rfl) rfl (fun _ _ _ h => h) (Or.inl ⟨by kernel_rfl, fun _ _ => by kernel_rfl⟩) hS (fun _ => hT) ?_
  try dsimp only
  try simp only [Act.put]
  refine wpAnyT_takeS (i := 8) (v := .pointer (some ⟨bx, 7, none⟩)) rfl (by kernel_rfl) (by kernel_rfl) (by kernel_rfl) rfl (fun _ _ _ h => h) (Or.inl ⟨by kernel_rfl, fun _ _ => by kernel_rfl⟩) hS (fun _ => hT) ?_
  try dsimp only
  try simp only [Act.put]
  refine wpAnyT_takeS (i := 9) (v := .int .i64 tt) rfl (by kernel_rfl) (by kernel_rfl) (by kernel_rfl) rfl (fun _ _ _ h => h) (Or.inl ⟨by kernel_rfl, fun W hW => by have e := hW.1.cell 7; go_simp⟩) hS (fun _ => hT) ?_
  try dsimp only
  try simp only [Act.put]
  refine wpAnyT_takeS (i := 10) (v := .pointer (some ⟨B, 0, none⟩)) rfl (by kernel_rfl) (by kernel_rfl) (by kernel_rfl) rfl (fun _ _ _ h => h) (Or.inl ⟨by kernel_rfl, fun _ _ => by kernel_rfl⟩) hS (fun _ => hT) ?_
  try dsimp only
  try simp only [Act.put]
  refine wpAnyT_takeS (i := 11) (v := .pointer (some ⟨B, tt * 2, none⟩)) rfl (by kernel_rfl) (by kernel_rfl) (by kernel_rfl) rfl (fun _ _ _ h => h) (Or.inl ⟨by kernel_rfl, fun W _ => by go_simp⟩) hS (fun _ => hT) ?_
  try dsimp only
  try simp only [Act.put]
  refine wpAnyT_take (i := 12) (v := .agg (cF fb).toArray) rfl (by kernel_rfl) (by kernel_rfl) (by kernel_rfl) (by kernel_rfl) rfl (by kernel_rfl) (fun _ _ _ h => h) (yields_load 83 (.tmp 15) rfl B (tt * 2) (by kernel_rfl) (cF fb) _ (by kernel_rfl) (fun W hW => RT.out W hW.2) Tryz.underlying83 rfl (by kernel_rfl)) hS hT ?_
  try dsimp only
  try simp only [Act.put]
  refine wpAnyT_takeS (i := 13) (v := .pointer (some ⟨B, 0, none⟩)) rfl (by kernel_rfl) (by kernel_rfl) (by kernel_rfl) rfl (fun _ _ _ h => h) (Or.inl ⟨by kernel_rfl, fun _ _ => by kernel_rfl⟩) hS (fun _ => hT) ?_
  try dsimp only
  try simp only [Act.put]
  refine wpAnyT_takeS (i := 14) (v := .pointer (some ⟨bx, 6, none⟩)) rfl (by kernel_rfl) (by kernel_rfl) (by kernel_rfl) rfl (fun _ _ _ h => h) (Or.inl ⟨by kernel_rfl, fun _ _ => by kernel_rfl⟩) hS (fun _ => hT) ?_
  try dsimp only
  try simp only [Act.put]
  refine wpAnyT_takeS (i := 15) (v := .int .i64 ff) rfl (by kernel_rfl) (by kernel_rfl) (by kernel_rfl) rfl (fun _ _ _ h => h) (Or.inl ⟨by kernel_rfl, fun W hW => by have e := hW.1.cell 6; go_simp⟩) hS (fun _ => hT) ?_
  try dsimp only
  try simp only [Act.put]
  refine wpAnyT_takeS (i := 16) (v := .pointer (some ⟨B, 0, none⟩)) rfl (by kernel_rfl) (by kernel_rfl) (by kernel_rfl) rfl (fun _ _ _ h => h) (Or.inl ⟨by kernel_rfl, fun _ _ => by kernel_rfl⟩) hS (fun _ => hT) ?_
  try dsimp only
  try simp only [Act.put]
  refine wpAnyT_takeS (i := 17) (v := .pointer (some ⟨B, ff * 2, none⟩)) rfl (by kernel_rfl) (by kernel_rfl) (by kernel_rfl) rfl (fun _ _ _ h => h) (Or.inl ⟨by kernel_rfl, fun W _ => by go_simp⟩) hS (fun _ => hT) ?_
  try dsimp only
  try simp only [Act.put]
  refine wpAnyT_take (i := 18) (v := .agg (cF fa).toArray) rfl (by kernel_rfl) (by kernel_rfl) (by kernel_rfl) (by kernel_rfl) rfl (by kernel_rfl) (fun _ _ _ h => h) (yields_load 83 (.tmp 21) rfl B (ff * 2) (by kernel_rfl) (cF fa) _ (by kernel_rfl) (fun W hW => RF.out W hW.2) Tryz.underlying83 rfl (by kernel_rfl)) hS hT ?_
  try dsimp only
  try simp only [Act.put]
  refine wpAnyT_takeS (i := 20) (v := .pointer (some ⟨B, 0, none⟩)) rfl (by kernel_rfl) (by kernel_rfl) (by kernel_rfl) rfl (fun _ _ _ h => h) (Or.inl ⟨by kernel_rfl, fun _ _ => by kernel_rfl⟩) hS (fun _ => hT) ?_
  try dsimp only
  try simp only [Act.put]
  refine wpAnyT_takeS (i := 23) (v := .pointer (some ⟨B, 0, none⟩)) rfl (by kernel_rfl) (by kernel_rfl) (by kernel_rfl) rfl (fun _ _ _ h => h) (Or.inl ⟨by kernel_rfl, fun _ _ => by kernel_rfl⟩) hS (fun _ => hT) ?_
  try dsimp only
  try simp only [Act.put]
  refine wpAnyT_one (j := 19) rfl (by kernel_rfl) (by kernel_rfl) (fun K hK => ?_)
  go_simp
  refine (HP _).mono ?_
  rintro e w4 ⟨rfl, hb⟩
  have hS := And.intro (hS.1.below' hb) (grown_trans hS.2 (grown_of_below _ hb))
  have hT := hT.below' hb
  refine hK.out _ _ hS (fun _ => hT) ?_
  try dsimp only
  try simp only [Act.put, List.setIfInBounds_toArray, List.set_cons_zero, List.set_cons_succ]
  refine wpAnyT_takeS (i := 21) (v := .pointer (some ⟨B, ff * 2, none⟩)) rfl (by kernel_rfl) (by kernel_rfl) (by kernel_rfl) rfl (fun _ _ _ h => h) (Or.inl ⟨by kernel_rfl, fun W _ => by go_simp⟩) hS (fun _ => hT) ?_
  try dsimp only
  try simp only [Act.put, List.setIfInBounds_toArray]
  refine wpAnyT_one (j := 22) rfl (by kernel_rfl) (by kernel_rfl) (fun K hK => ?_)
  refine oper_store_mid 83 _ _ rfl B (ff * 2) #[.int .i64 0, .int .i64 1] rfl rfl (TF.out _ s hs hT) (by kernel_rfl) (by simp [Value.oneCell']) ?_
  have kS1 : Blk (w4.setCells B (ff * 2) (cF ⟨0, 1⟩)) B (cSs (s.set ff ⟨0, 1⟩)) 113 := by
    have q := hT.setCells (ff * 2) (cF ⟨0, 1⟩)
    rwa [setAll_shares] at q
  have hS1 := And.intro (hS.1.setCells_other (Ne.symm hne) (ff * 2) (cF ⟨0, 1⟩)) (grown_trans hS.2 (grownBy_setCells w4 B (ff * 2) (cF ⟨0, 1⟩)))
  refine hK.out _ _ hS1 (fun q => by cases (show (true : Bool) = false from q)) ?_
  try dsimp only
  try simp only [Act.put]
  refine wpAnyT_takeS (i := 24) (v := .pointer (some ⟨B, tt * 2, none⟩)) rfl (by kernel_rfl) (by kernel_rfl) (by kernel_rfl) rfl (fun _ _ _ h => h) (Or.inl ⟨by kernel_rfl, fun W _ => by go_simp⟩) hS1 (fun q => by cases (show (true : Bool) = false from q)) ?_
  try dsimp only
  try simp only [Act.put]
  refine wpAnyT_one (j := 25) rfl (by kernel_rfl) (by kernel_rfl) (fun K hK => ?_)
  refine oper_store_mid 83 _ _ rfl B (tt * 2) #[.int .i64 b.num, .int .i64 b.den] rfl rfl (TT.out _ (s.set ff ⟨0, 1⟩) (by rw [List.length_set]; exact hs) kS1) (by kernel_rfl) (by simp [Value.oneCell']) ?_
  have kS2 : Blk ((w4.setCells B (ff * 2) (cF ⟨0, 1⟩)).setCells B (tt * 2) (cF b)) B (cSs ((s.set ff ⟨0, 1⟩).set tt b)) 113 := by
    have q := kS1.setCells (tt * 2) (cF b)
    rwa [setAll_shares] at q
  have hS2 := And.intro (hS1.1.setCells_other (Ne.symm hne) (tt * 2) (cF b)) (grown_trans hS1.2 (grownBy_setCells _ B (tt * 2) (cF b)))
  refine hK.out _ _ hS2 (fun q => by cases (show (true : Bool) = false from q)) ?_
  try dsimp only
  try simp only [Act.put]
  refine wpAnyT_done (by kernel_rfl) ?_ _
  have hfin := And.intro kS2 (grown_trans (grown_of_below _ hB1) hS2.2)
  clear hK hS1 hS2 kS1 kS2 hS hT RF RT TF TT HP
  go_end0
  exact ⟨rfl, hfin⟩

end Go.Proofs.YtmeomhojbobpbaaGreatDoor
