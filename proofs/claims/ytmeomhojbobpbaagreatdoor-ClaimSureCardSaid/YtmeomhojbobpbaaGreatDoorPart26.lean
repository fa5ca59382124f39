import Derived.Test.YtmeomhojbobpbaaGreatDoorPart24
import Derived.Test.YtmeomhojbobpbaaGreatDoorPart25
import Derived.Test.YtmeomhojbobpbaaGreatDoorPart17
import Derived.Test.YtmeomhojbobpbaaGreatDoorPart03
import Derived.Sort.WalkA
import Derived.Sort.LotA
import Derived.Test.YtmeomhojbobpbaaGreatDoorPart14
import Derived.Test.YtmeomhojbobpbaaGreatDoorPart02
import Derived.BigQuiet
import Derived.Deep.CutRange
import Derived.Deep.DeepCutAuto
/-
  Walks: what those have who do not claim goes to the crown ((*claim.shares).lapse); a deed done.
-/
namespace Go.Proofs.YtmeomhojbobpbaaGreatDoor
open Go.RowKit Lg Go.Sort Go.Shelf

theorem Lst.cellI {w : World} {b off n cap : Nat} {xs : List Int} (h : Lst w 1 cI (some ⟨b, off, none⟩) n cap xs) (j : Nat) (hj : j < xs.length) : w.cell? ⟨b, off + j, none⟩ = some (.int .i64 (xs.getD j 0)) := by
  have hx : xs[j]? = some xs[j] := by simp [hj]
  obtain ⟨b', o', e, _, hr⟩ := h.at_ j _ hx
  cases e
  have := hr 0 _ rfl
  simp only [Nat.mul_one, Nat.add_zero] at this
  rw [this]; simp [List.getD, hj]

/-- slices.Contains at ints. -/
theorem containsI_any (a : Option Addr) (n cap : Nat) (xs : List Int) (x : Int) (w : World) (hL : Lst w 1 cI a n cap xs) :
    Calls Tryz.prog 36 #[.slice a n cap, .int .i64 x] w fun e w' => e = .returned (.bool (xs.contains x)) ∧ w' = w := by
  have hl := hL.len
  cases xs with
  | nil =>
    rw [List.length_nil] at hl; subst hl
    exact Any.slices_Contains_int_empty Tryz.lays107 a cap x w
  | cons y ys =>
    obtain ⟨b, off, rfl, _, _⟩ := hL.at_ 0 y rfl
    have hm := hL.max
    have hle := hL.le
    have := Any.slices_Contains_int Tryz.lays107 b off n cap (y :: ys) x w (by omega) (by unfold maxLen at hm; omega) (fun j hj => hL.cellI j hj)
    rwa [List.take_of_length_le (by omega)] at this

theorem lapse_none (cl : List Int) : ∀ ps : List Nat, ps.foldl (lapseStep cl) none = none := fun ps => by
  induction ps with
  | nil => rfl
  | cons p r ih => rw [List.foldl_cons]; exact ih

theorem cell_grown_ne {w w' : World} {B b o : Nat} {v : Value} (h : w.cell? ⟨b, o, none⟩ = some v) (hg : w.grownBy w' (some B)) (hne : b ≠ B) : w'.cell? ⟨b, o, none⟩ = some v :=
  (World.cell?_of_block (a := ⟨b, o, none⟩) (hg.block b (block_lt_of_cell h) (by simpa using hne))).trans h

theorem Lst.grownI {w w' : World} {B : Nat} {a : Option Addr} {n cap : Nat} {xs : List Int} (h : Lst w 1 cI a n cap xs) (hg : w.grownBy w' (some B)) (hne : ∀ b off, xs ≠ [] → a = some ⟨b, off, none⟩ → b ≠ B) : Lst w' 1 cI a n cap xs :=
  ⟨h.len, h.le, h.max, fun i x hx => by
    obtain ⟨b, off, ha, hlt, hr⟩ := h.at_ i x hx
    have hb := hne b off (fun e => by rw [e] at hx; simp at hx) ha
    exact ⟨b, off, ha, Nat.lt_of_lt_of_le hlt hg.size, fun j v hv => cell_grown_ne (hr j v hv) hg hb⟩⟩

set_option maxRecDepth 100000 in
set_option maxHeartbeats 3200000 in
theorem lapse1_ok (cl : List Int) (a : Option Addr) (n cap : Nat) (s s' : List Frac) (B bc bp : Nat) (w : World) (hp : PurseOk s) (hk : Blk w B (cSs s) 113) (hc : w.cell? ⟨bc, 0, none⟩ = some (.slice a n cap)) (hb : w.cell? ⟨bp, 0, none⟩ = some (.pointer (some ⟨B, 0, none⟩)))
    (hL : Lst w 1 cI a n cap cl) (hdis : ∀ b off, cl ≠ [] → a = some ⟨b, off, none⟩ → b ≠ B) (hcB : bc ≠ B) (hbB : bp ≠ B) (h : lapseD cl s = some s') :
    Calls Tryz.prog 181 #[.pointer (some ⟨bc, 0, none⟩), .pointer (some ⟨bp, 0, none⟩)] w fun e w' => e = .returned (.tuple #[]) ∧ Blk w' B (cSs s') 113 ∧ w.grownBy w' (some B) := by
  unfold lapseD at h
  have Hl := Lib.hid h
  clear h
  go_enter Tryz.func181, Tryz.ntmps181
  go_wp2_with (fail)
  go_loopw [2] (fun i wr => ∃ p : Nat, 1 ≤ p ∧ p ≤ 41 ∧ i = .int .i64 p ∧ ∃ st, PurseOk st ∧ (List.range' p (41 - p)).foldl (lapseStep cl) (some st) = some s' ∧ Blk wr B (cSs st) 113 ∧ w.grownBy wr (some B)) (fun i _ => 41 - (intOf i).toNat)
  case atStart => exact ⟨1, by omega, by omega, rfl, s, hp, Hl.out, hk, grown_refl _ _⟩
  case round =>
    obtain ⟨p, hp1, hp2, rfl, st, ho, hfold, kS, hg⟩ := hrel
    have hst := ho.1
    by_cases hlt : p < 41
    · have hltz : (p : Int) < 41 := by omega
      have hz0 : (0 : Int) ≤ (p : Int) := by omega
      rw [show 41 - p = (41 - (p + 1)) + 1 by omega, List.range'_succ, List.foldl_cons] at hfold
      have cb := cell_grown_ne hb hg hbB
      have cc := cell_grown_ne hc hg hcB
      have hLr := hL.grownI hg hdis
      have hct := containsI_any a n cap cl (p : Int) wr hLr
      cases hcn : cl.contains (p : Int) with
      | true =>
        have hf2 : lapseStep cl (some st) p = some st := by unfold lapseStep; simp only [Option.bind_some]; rw [if_pos hcn]
        rw [hf2] at hfold
        rw [hcn] at hct
        have Hf := Lib.hid hfold
        clear hfold hf2 hcn
        go_wp2_with (fail)
        refine hct.mono ?_
        clear hct
        rintro e w2 ⟨rfl, rfl⟩
        go_wp2_with (fail)
        go_roundw
        case rel => exact ⟨p + 1, by omega, by omega, by go_num, st, ho, Hf.out, kS, hg⟩
        case measure => simp [intOf]; omega
      | false =>
        obtain ⟨t, ht, hfold⟩ : ∃ t, plusO (fr st 0) (fr st p) = some t ∧ (List.range' (p + 1) (41 - (p + 1))).foldl (lapseStep cl) (some ((st.set 0 t).set p ⟨0, 1⟩)) = some s' := by
          unfold lapseStep at hfold
          simp only [Option.bind_some] at hfold
          rw [if_neg (by rw [hcn]; decide)] at hfold
          cases hq : plusO (fr st 0) (fr st p) with
          | none =>
            rw [hq] at hfold
            have := lapse_none cl (List.range' (p + 1) (41 - (p + 1)))
            unfold lapseStep at this
            simp only [Option.bind_none] at hfold this
            rw [this] at hfold; cases hfold
          | some t => exact ⟨t, rfl, by rw [hq] at hfold; exact hfold⟩
        rw [hcn] at hct
        have v0 := fr_mem ho (p := 0) (by omega) (by omega)
        have vp := fr_mem ho (p := (p : Int)) (by omega) (by omega)
        have ho2 : PurseOk ((st.set 0 t).set p ⟨0, 1⟩) := (ho.set 0 (plusO_Q v0 vp ht).1).set p validF_zero
        obtain ⟨f0, hf0⟩ : ∃ f, f = fr st 0 := ⟨_, rfl⟩
        obtain ⟨fp, hfp⟩ : ∃ f, f = fr st (p : Int) := ⟨_, rfl⟩
        have HP := fun W => plusO_ok f0 fp t W (hf0 ▸ validF_ok v0) (hfp ▸ validF_ok vp) (by rw [hf0, hfp]; exact ht)
        have R0 := Lib.hid (fun W (k : Blk W B (cSs st) 113) => show W.rangeAt B 0 (cF f0) by rw [hf0]; simpa using cell_share k 0 (by omega))
        have RP := Lib.hid (fun W (k : Blk W B (cSs st) 113) => show W.rangeAt B (p * 2) (cF fp) by rw [hfp]; exact cell_share k p (by omega))
        have T0 := Lib.hid (fun W (l : List Frac) (hl : l.length = 41) (k : Blk W B (cSs l) 113) => show W.there B 0 2 by simpa using there_share k 0 (by omega))
        have TP := Lib.hid (fun W (l : List Frac) (hl : l.length = 41) (k : Blk W B (cSs l) 113) => there_share k p (by omega))
        have Hf := Lib.hid hfold
        clear hfold hcn hf0 hfp v0 vp ht ho
        go_wp2_with (fail)
        refine hct.mono ?_
        clear hct
        rintro e w2 ⟨rfl, rfl⟩
        clear cc
        go_upto_region 4 with fail
        refine wp_region_T (fun W => W.cell? ⟨bp, 0, none⟩ = some (.pointer (some ⟨B, 0, none⟩)) ∧ w.grownBy W (some B)) (fun W => Blk W B (cSs st) 113) 13 (by kernel_rfl) ⟨cb, grown_trans hg (grown_of_below _ (Below.refl _ _).drew)⟩ kS (fun hS hT => ?_)
        clear cb kS
        refine wpAnyT_takeS (i := 0) (v := .pointer (some ⟨B, 0, none⟩)) rfl (by kernel_rfl) (by kernel_rfl) (by kernel_rfl) rfl (fun _ _ _ h => h) (Or.inl ⟨by kernel_rfl, fun W hW => by have e := hW.1; go_simp⟩) hS (fun _ => hT) ?_
        try dsimp only
        try simp only [Act.put, List.setIfInBounds_toArray]
        refine wpAnyT_takeS (i := 1) (v := .pointer (some ⟨B, 0, none⟩)) rfl (by kernel_rfl) (by kernel_rfl) (by kernel_rfl) rfl (fun _ _ _ h => h) (Or.inl ⟨by kernel_rfl, fun W hW => by have e := hW.1; go_simp⟩) hS (fun _ => hT) ?_
        try dsimp only
        try simp only [Act.put]
        refine wpAnyT_takeS (i := 2) (v := .pointer (some ⟨B, 0, none⟩)) rfl (by kernel_rfl) (by kernel_rfl) (by kernel_rfl) rfl (fun _ _ _ h => h) (Or.inl ⟨by kernel_rfl, fun _ _ => by kernel_rfl⟩) hS (fun _ => hT) ?_
        try dsimp only
        try simp only [Act.put]
        refine wpAnyT_takeS (i := 3) (v := .pointer (some ⟨B, 0, none⟩)) rfl (by kernel_rfl) (by kernel_rfl) (by kernel_rfl) rfl (fun _ _ _ h => h) (Or.inl ⟨by kernel_rfl, fun W _ => by go_simp⟩) hS (fun _ => hT) ?_
        try dsimp only
        try simp only [Act.put]
        refine wpAnyT_take (i := 4) (v := .agg (cF f0).toArray) rfl (by kernel_rfl) (by kernel_rfl) (by kernel_rfl) (by kernel_rfl) rfl (by kernel_rfl) (fun _ _ _ h => h) (yields_load 83 (.tmp 14) rfl B (0) (by kernel_rfl) (cF f0) _ (by kernel_rfl) (fun W hW => R0.out W hW.2) Tryz.underlying83 rfl (by kernel_rfl)) hS hT ?_
        try dsimp only
        try simp only [Act.put]
        refine wpAnyT_takeS (i := 5) (v := .pointer (some ⟨B, 0, none⟩)) rfl (by kernel_rfl) (by kernel_rfl) (by kernel_rfl) rfl (fun _ _ _ h => h) (Or.inl ⟨by kernel_rfl, fun W hW => by have e := hW.1; go_simp⟩) hS (fun _ => hT) ?_
        try dsimp only
        try simp only [Act.put]
        refine wpAnyT_takeS (i := 6) (v := .int .i64 p) rfl (by kernel_rfl) (by kernel_rfl) (by kernel_rfl) rfl (fun _ _ _ h => h) (Or.inl ⟨by kernel_rfl, fun _ _ => by kernel_rfl⟩) hS (fun _ => hT) ?_
        try dsimp only
        try simp only [Act.put]
        refine wpAnyT_takeS (i := 7) (v := .pointer (some ⟨B, 0, none⟩)) rfl (by kernel_rfl) (by kernel_rfl) (by kernel_rfl) rfl (fun _ _ _ h => h) (Or.inl ⟨by kernel_rfl, fun _ _ => by kernel_rfl⟩) hS (fun _ => hT) ?_
        try dsimp only
        try simp only [Act.put]
        refine wpAnyT_takeS (i := 8) (v := .pointer (some ⟨B, p * 2, none⟩)) rfl (by kernel_rfl) (by kernel_rfl) (by kernel_rfl) rfl (fun _ _ _ h => h) (Or.inl ⟨by kernel_rfl, fun W _ => by go_simp⟩) hS (fun _ => hT) ?_
        try dsimp only
        try simp only [Act.put]
        refine wpAnyT_take (i := 9) (v := .agg (cF fp).toArray) rfl (by kernel_rfl) (by kernel_rfl) (by kernel_rfl) (by kernel_rfl) rfl (by kernel_rfl) (fun _ _ _ h => h) (yields_load 83 (.tmp 19) rfl B (p * 2) (by kernel_rfl) (cF fp) _ (by kernel_rfl) (fun W hW => RP.out W hW.2) Tryz.underlying83 rfl (by kernel_rfl)) hS hT ?_
        try dsimp only
        try simp only [Act.put]
        refine wpAnyT_takeS (i := 11) (v := .pointer (some ⟨B, 0, none⟩)) rfl (by kernel_rfl) (by kernel_rfl) (by kernel_rfl) rfl (fun _ _ _ h => h) (Or.inl ⟨by kernel_rfl, fun _ _ => by kernel_rfl⟩) hS (fun _ => hT) ?_
        try dsimp only
        try simp only [Act.put]
        refine wpAnyT_one (j := 10) rfl (by kernel_rfl) (by kernel_rfl) (fun K hK => ?_)
        go_simp
        refine (HP _).mono ?_
        rintro e w4 ⟨rfl, hb⟩
        have hS := And.intro ((hb.cell (p := ⟨bp, 0, none⟩) (block_lt_of_cell hS.1)).trans hS.1) (grown_trans hS.2 (grown_of_below _ hb))
        have hT := hT.below' hb
        refine hK.out _ _ hS (fun _ => hT) ?_
        try dsimp only
        try simp only [Act.put, List.setIfInBounds_toArray, List.set_cons_zero, List.set_cons_succ]
        refine wpAnyT_takeS (i := 12) (v := .pointer (some ⟨B, 0, none⟩)) rfl (by kernel_rfl) (by kernel_rfl) (by kernel_rfl) rfl (fun _ _ _ h => h) (Or.inl ⟨by kernel_rfl, fun W _ => by go_simp⟩) hS (fun _ => hT) ?_
        try dsimp only
        try simp only [Act.put, List.setIfInBounds_toArray]
        refine wpAnyT_one (j := 13) rfl (by kernel_rfl) (by kernel_rfl) (fun K hK => ?_)
        refine oper_store_mid 83 _ _ rfl B 0 #[.int .i64 t.num, .int .i64 t.den] rfl rfl (T0.out _ st hst hT) (by kernel_rfl) (by simp [Value.oneCell']) ?_
        have kS1 : Blk (w4.setCells B 0 (cF t)) B (cSs (st.set 0 t)) 113 := by
          have q := hT.setCells (0 * 2) (cF t)
          rw [setAll_shares] at q
          simpa using q
        have hS1 := And.intro (cell_grown_ne hS.1 (grownBy_setCells w4 B 0 (cF t)) hbB) (grown_trans hS.2 (grownBy_setCells w4 B 0 (cF t)))
        refine hK.out _ _ hS1 (fun q => by cases (show (true : Bool) = false from q)) ?_
        try dsimp only
        try simp only [Act.put]
        refine wpAnyT_done (by kernel_rfl) ?_ _
        have hkS := kS1
        have hc1 := hS1.1
        have hg1 := hS1.2
        clear hK hS1 kS1 hS hT R0 RP T0 HP
        obtain ⟨w5, hw5⟩ : ∃ w5, w5 = w4.setCells B 0 (cF t) := ⟨_, rfl⟩
        have TH := TP.out w5 (st.set 0 t) (by rw [List.length_set]; exact hst) (hw5 ▸ hkS)
        have kS2 : Blk (w5.setCells B (p * 2) (cF ⟨0, 1⟩)) B (cSs ((st.set 0 t).set p ⟨0, 1⟩)) 113 := by
          have q := (hw5 ▸ hkS : Blk w5 B (cSs (st.set 0 t)) 113).setCells (p * 2) (cF ⟨0, 1⟩)
          rwa [setAll_shares] at q
        rw [← hw5] at hc1 hg1
        rw [show (w4.setCells B 0 [Value.int .i64 t.num, Value.int .i64 t.den]) = w5 from hw5.symm]
        clear hw5 hkS TP
        go_wp2_with (first
          | (refine wpList_store_mid rfl 83 _ _ rfl B (p * 2) #[.int .i64 0, .int .i64 1] rfl rfl TH (by kernel_rfl) (by simp [Value.oneCell']) ?_)
          | fail)
        go_roundw
        case rel => exact ⟨p + 1, by omega, by omega, by go_num, _, ho2, Hf.out, kS2, grown_trans hg1 (grownBy_setCells w5 B (p * 2) (cF ⟨0, 1⟩))⟩
        case measure => simp [intOf]; omega
    · obtain rfl : p = 41 := by omega
      have e : st = s' := by simpa using hfold
      have E := Lib.hid e
      clear e hfold
      go_wp2_with (fail)
      go_end0
      exact ⟨rfl, E.out ▸ kS, hg⟩

set_option maxRecDepth 100000 in
set_option maxHeartbeats 1600000 in
theorem lapseD_ok (cl : List Int) (a : Option Addr) (n cap : Nat) (s s' : List Frac) (B : Nat) (w : World) (hp : PurseOk s) (hk : Blk w B (cSs s) 113) (hL : Lst w 1 cI a n cap cl) (hdis : ∀ b off, cl ≠ [] → a = some ⟨b, off, none⟩ → b ≠ B) (h : lapseD cl s = some s') :
    Calls Tryz.prog 151 #[.pointer (some ⟨B, 0, none⟩), .slice a n cap] w fun e w' => e = .returned (.int .i64 0) ∧ Blk w' B (cSs s') 113 ∧ w.grownBy w' (some B) := by
  have eg : ∀ args w, (callFunc 181 args).run Tryz.prog w = .ok (.enter 181 args) w := enters_of Tryz.func181 (by kernel_rfl) rfl
  have hmf : ∀ (fn : Fn) (first cap : Array Value) (w : World), (Instr.makeFunc fn first cap).run Tryz.prog w = .ok (.func fn first cap) w := fun _ _ _ _ => rfl
  obtain ⟨w1, hw1⟩ : ∃ w0, w0 = (w.alloc (.cells #[.pointer (some ⟨B, 0, none⟩)] 193)).alloc (.cells #[.slice a n cap] 30) := ⟨_, rfl⟩
  have k1 : Blk w1 w.heap.size #[.pointer (some ⟨B, 0, none⟩)] 193 := hw1 ▸ (Blk.new w _ _).alloc _
  have k2 : Blk w1 (w.heap.size + 1) #[.slice a n cap] 30 := hw1 ▸ Blk.nw1 w _ _ _
  have hB1 : RowKit.Below w.heap.size w w1 := hw1 ▸ ((Below.refl _ w).alloc (Nat.le_refl _) _).alloc (by simp) _
  have hBl := hk.lt
  have kS := hk.below' hB1
  have hL1 := hL.below hB1
  have hl2 := k2.lt
  have hr := ranged_ok 181 #[.pointer (some ⟨w.heap.size + 1, 0, none⟩), .pointer (some ⟨w.heap.size, 0, none⟩)] eg w1 (fun w' => Blk w' B (cSs s') 113 ∧ (w1.alloc (.cells #[.int .i64 0] 26)).grownBy w' (some B)) (by
    refine (lapse1_ok cl a n cap s s' B (w.heap.size + 1) w.heap.size (w1.alloc (.cells #[.int .i64 0] 26)) hp (kS.alloc _) ((k2.alloc _).cell 0) ((k1.alloc _).cell 0) (hL1.below ((Below.refl _ _).alloc (Nat.le_refl _) _)) hdis (by omega) (by omega) h).mono ?_
    rintro e w' ⟨rfl, h1, h2⟩
    exact ⟨rfl, (Blk.new w1 _ _).kept h2 (by simp; omega), h1, h2⟩)
  clear h hp hL hdis hL1
  go_enter Tryz.func151, Tryz.ntmps151
  go_upto_region 1 with fail
  rw [← hw1]
  clear hw1
  go_wp2_with (fail)
  refine hr.mono ?_
  clear hr
  rintro e w5 ⟨rfl, w4, ⟨k4, hg4⟩, rfl⟩
  have hg : w.grownBy w4 (some B) := grown_trans (grown_of_below _ (hB1.alloc hB1.size _)) hg4
  have hsz4 : w1.heap.size < w4.heap.size := by have := hg4.size; simp at this; omega
  have hg5 : w4.grownBy (w4.setCell ⟨w1.heap.size, 0, none⟩ (.int .i64 0)) (some w1.heap.size) := grownBy_setCells w4 w1.heap.size 0 [.int .i64 0]
  have hg6 : w.grownBy (w4.setCell ⟨w1.heap.size, 0, none⟩ (.int .i64 0)) (some B) := ⟨hg5.os.trans hg.os, hg5.tape.trans hg.tape, hg5.output.trans hg.output, Nat.le_trans hg.size hg5.size, fun k hk hne => (hg5.block k (Nat.lt_of_lt_of_le hk hg.size) (by have := hB1.size; simp; omega)).trans (hg.block k hk hne)⟩
  have k5 := k4.setCell_other (C := w1.heap.size) (by omega) 0 (.int .i64 0)
  go_wp2_with (fail)
  go_ret
  exact ⟨rfl, k5, hg6⟩

/-- A deed that moves shares, done. -/
theorem doD_some {s s' : List Frac} {x : Deed} (hp : PurseOk s) (hx : MoveOk x) (hm : movesD x.kind = true) (e : doD s x = some s') (B : Nat) (w : World) (hk : Blk w B (cSs s) 113) :
    Calls Tryz.prog 152 #[.pointer (some ⟨B, 0, none⟩), aD x] w fun e w' => e = .returned (.bool true) ∧ Blk w' B (cSs s') 113 ∧ w.grownBy w' (some B) := by
  have hl' := (do_ok hp hx hm e).1
  obtain ⟨⟨f0, f1⟩, ⟨t0, t1⟩, hsh⟩ := hx hm
  obtain ⟨i, kn, ho, kd, lo, pa, fm, to_, ⟨sn, sd⟩, o⟩ := x
  simp only at f0 f1 t0 t1 hsh hm e
  obtain ⟨ff, rfl⟩ := Int.eq_ofNat_of_zero_le f0
  obtain ⟨tt, rfl⟩ := Int.eq_ofNat_of_zero_le t0
  have vf := validF_ok (fr_mem hp (p := (ff : Int)) f0 f1)
  have vt := validF_ok (fr_mem hp (p := (tt : Int)) t0 t1)
  unfold doD at e
  simp only at e
  by_cases hz : (fr s (ff : Int)).num = 0
  · rw [if_pos hz] at e; cases e
  · rw [if_neg hz] at e
    unfold moveD at e
    simp only at e
    by_cases h3 : kd = 3
    · subst h3
      rw [if_pos rfl] at e
      unfold leaveD at e
      simp only at e
      cases hb : plusO (fr s (tt : Int)) (fr s (ff : Int)) with
      | none => rw [hb] at e; cases e
      | some b =>
        rw [hb] at e
        simp only [Option.bind_some, Option.some.injEq] at e
        subst e
        exact doD_ok 3 _ (.inr (.inr ⟨rfl, rfl⟩)) s _ i kn ho lo pa ff tt sn sd o B w hp.1 hl' hk (by omega) _ rfl hz (fun W bn kb => leaveD_ok s i kn ho 3 lo pa ff tt sn sd o bn W hp.1 kb (by omega) (by omega) _ _ b rfl rfl vf vt hb)
    · rw [if_neg h3] at e
      have vs := validF_ok (hsh h3)
      unfold takeD at e
      simp only at e
      cases hpt : timesO ⟨sn, sd⟩ (fr s (ff : Int)) with
      | none => rw [hpt] at e; cases e
      | some part =>
        rw [hpt] at e
        simp only [Option.bind_some] at e
        have vpart := validF_ok (timesO_Q (hsh h3) (fr_mem hp (p := (ff : Int)) f0 f1) hpt).1
        cases ha : plusO (fr s (ff : Int)) (negF part) with
        | none => rw [ha] at e; cases e
        | some a =>
          rw [ha] at e
          simp only [Option.bind_some] at e
          cases hb : plusO (fr s (tt : Int)) part with
          | none => rw [hb] at e; cases e
          | some b =>
            rw [hb] at e
            simp only [Option.bind_some, Option.some.injEq] at e
            subst e
            have hkd : kd = 1 ∨ kd = 2 := by
              unfold movesD at hm
              simp only [Bool.or_eq_true, decide_eq_true_eq] at hm
              omega
            exact doD_ok kd 211 (by rcases hkd with h | h; exact .inl ⟨h, rfl⟩; exact .inr (.inl ⟨h, rfl⟩)) s _ i kn ho lo pa ff tt sn sd o B w hp.1 hl' hk (by omega) _ rfl hz
              (fun W bn kb => takeD_ok s i kn ho kd lo pa ff tt sn sd o bn W hp.1 kb (by omega) (by omega) _ _ part a b rfl rfl vf vt vs vpart hpt ha hb)

/-- A deed whose giver has nothing. -/
theorem doD_idle {s : List Frac} {x : Deed} (hp : PurseOk s) (hx : MoveOk x) (hm : movesD x.kind = true) (hz : (fr s x.from_).num = 0) (B : Nat) (w : World) (hk : Blk w B (cSs s) 113) :
    Calls Tryz.prog 152 #[.pointer (some ⟨B, 0, none⟩), aD x] w (Gives w (.bool false)) := by
  obtain ⟨⟨f0, f1⟩, ⟨t0, t1⟩, hsh⟩ := hx hm
  obtain ⟨i, kn, ho, kd, lo, pa, fm, to_, ⟨sn, sd⟩, o⟩ := x
  simp only at f0 f1 t0 t1 hz
  obtain ⟨ff, rfl⟩ := Int.eq_ofNat_of_zero_le f0
  obtain ⟨tt, rfl⟩ := Int.eq_ofNat_of_zero_le t0
  exact doD_zero s i kn ho kd lo pa ff tt sn sd o B w hp.1 hk (by omega) _ rfl hz

end Go.Proofs.YtmeomhojbobpbaaGreatDoor

/-
  Plain: the library's sorting by insertion puts deeds by their hours, those of one hour as they were.
-/
namespace Lg
open Go Go.Sort Go.Proofs

/-- What comes ahead. -/
def ltH (x y : Deed) : Bool := decide (x.hour < y.hour)
def SortedH (l : List Deed) : Prop := l.Pairwise fun a b => a.hour ≤ b.hour

theorem insH_snoc (l : List Deed) (y x : Deed) (h : x.hour < y.hour) : insH (l ++ [y]) x = insH l x ++ [y] := by
  induction l with
  | nil => simp [insH, h]
  | cons z r ih =>
    simp only [List.cons_append, insH]
    split
    · simp
    · rw [ih]; simp

theorem insH_sort {l : List Deed} (h : SortedH l) (x : Deed) : SortedH (insH l x) := by
  unfold SortedH at *
  induction l with
  | nil => exact List.pairwise_singleton _ _
  | cons y r ih =>
    have h2 := ih (List.pairwise_cons.1 h).2
    unfold insH
    split
    · refine List.pairwise_cons.2 ⟨fun z hz => ?_, h⟩
      rcases List.mem_cons.1 hz with rfl | hz
      · omega
      · have := (List.pairwise_cons.1 h).1 z hz; omega
    · refine List.pairwise_cons.2 ⟨fun z hz => ?_, h2⟩
      rcases (insH_mem r x z).1 hz with rfl | hz
      · omega
      · exact (List.pairwise_cons.1 h).1 z hz

theorem insH_len (l : List Deed) (x : Deed) : (insH l x).length = l.length + 1 := by
  induction l with
  | nil => rfl
  | cons y r ih => unfold insH; split <;> simp [ih]

theorem insInner_list : ∀ (n : Nat) (l : List Deed) (x : Deed) (r : List Deed), l.length = n → SortedH l → insInner ltH 0 n (l ++ x :: r).toArray = (insH l x ++ r).toArray
  | 0, l, x, r, hn, hs => by
    rw [List.eq_nil_of_length_eq_zero hn, insInner_stop ltH 0 0 _ (.inl (Nat.le_refl _))]; rfl
  | n + 1, l, x, r, hn, hs => by
    obtain ⟨l', y, rfl⟩ : ∃ l' y, l = l' ++ [y] := by
      rcases List.eq_nil_or_concat l with h | ⟨l', y, h⟩
      · rw [h] at hn; cases hn
      · exact ⟨l', y, by rw [h, List.concat_eq_append]⟩
    have hl : l'.length = n := by simpa using hn
    have e1 : (l' ++ [y] ++ x :: r).toArray[n + 1]! = x := by
      rw [← hl]; simp
    have e2 : (l' ++ [y] ++ x :: r).toArray[n]! = y := by
      rw [← hl]; simp
    by_cases h : x.hour < y.hour
    · rw [insInner_go ltH 0 (n + 1) _ (by omega) (by rw [Nat.add_sub_cancel, e1, e2]; simp [ltH, h]), Nat.add_sub_cancel]
      have e3 : swp (l' ++ [y] ++ x :: r).toArray (n + 1) n = (l' ++ x :: (y :: r)).toArray := by
        unfold swp
        rw [e1, e2, List.setIfInBounds_toArray, List.setIfInBounds_toArray, ← hl]
        simp
      rw [e3, insInner_list n l' x (y :: r) hl (List.pairwise_append.1 hs).1, insH_snoc l' y x h]
      simp
    · rw [insInner_stop ltH 0 (n + 1) _ (.inr (by rw [Nat.add_sub_cancel, e1, e2]; simp [ltH, h]))]
      rw [insH_end (l' ++ [y]) x (fun w hw => by
        rcases List.mem_append.1 hw with hw | hw
        · have := (List.pairwise_append.1 hs).2.2 w hw y (by simp); omega
        · rw [List.mem_singleton.1 hw]; omega)]
      simp

theorem insOuter_list : ∀ (r acc : List Deed), SortedH acc → insOuter ltH 0 (acc.length + r.length) acc.length (acc ++ r).toArray = (r.foldl insH acc).toArray
  | [], acc, _ => by rw [insOuter_stop ltH _ _ _ _ (by simp)]; simp
  | x :: r, acc, h => by
    rw [insOuter_go ltH _ _ _ _ (by simp), insInner_list acc.length acc x r rfl h, List.foldl_cons]
    have := insOuter_list r (insH acc x) (insH_sort h x)
    rw [insH_len] at this
    rw [List.length_cons, show acc.length + (r.length + 1) = acc.length + 1 + r.length by omega]
    exact this

theorem sortH_list (l : List Deed) : insertionSort ltH l.toArray 0 l.length = (byHourD l).toArray := by
  unfold insertionSort
  cases l with
  | nil => rw [insOuter_stop ltH _ _ _ _ (by simp)]; rfl
  | cons x r =>
    have := insOuter_list r [x] (List.pairwise_singleton _ _)
    rw [List.length_cons, show r.length + 1 = [x].length + r.length by simp; omega]
    exact this

theorem byHourD_len (l : List Deed) : (byHourD l).length = l.length := by
  have : ∀ (l acc : List Deed), (l.foldl insH acc).length = acc.length + l.length := by
    intro l
    induction l with
    | nil => intro acc; rfl
    | cons x r ih => intro acc; rw [List.foldl_cons, ih, insH_len, List.length_cons]; omega
  have h := this l []
  unfold byHourD
  rw [h]; simp

end Lg

/-
  Walks: why a deed is refused behind others; a register; one more deed.
-/
namespace Go.Proofs.YtmeomhojbobpbaaGreatDoor
open Go.RowKit Lg Go.Sort Go.Shelf

theorem ieq (a b : Int) : (a == b) = decide (a = b) := rfl

set_option maxRecDepth 100000 in
set_option maxHeartbeats 800000 in
theorem folD1_any (x y : Deed) (B : Nat) (w : World) (k : Blk w B #[.int .i64 x.id, .int .i64 x.known, .int .i64 x.hour, .int .u8 x.kind, .int .i64 x.loss, .int .i64 x.pack, .int .i64 x.from_, .int .i64 x.to_, .int .i64 x.share.num, .int .i64 x.share.den, .int .i64 x.of_] 36) :
    Calls Tryz.prog 142 #[aD y, .pointer (some ⟨B, 0, none⟩)] w (Gives w (.bool (namedD x y))) := by
  obtain ⟨W, hW⟩ : ∃ W, W = w.alloc (.cells (cD y).toArray 36) := ⟨_, rfl⟩
  have hB : RowKit.Below w.heap.size w W := hW ▸ (Below.refl _ w).alloc (Nat.le_refl _) _
  have kX : Blk W B #[.int .i64 x.id, .int .i64 x.known, .int .i64 x.hour, .int .u8 x.kind, .int .i64 x.loss, .int .i64 x.pack, .int .i64 x.from_, .int .i64 x.to_, .int .i64 x.share.num, .int .i64 x.share.den, .int .i64 x.of_] 36 := hW ▸ k.alloc _
  have kY : Blk W w.heap.size (cD y).toArray 36 := hW ▸ Blk.new _ _ _
  obtain ⟨r, hr⟩ : ∃ r, r = namedD x y := ⟨_, rfl⟩
  rw [← hr]
  unfold namedD at hr
  have cX := kX.cell
  have cY := kY.cell
  by_cases h5 : x.kind = 5
  · have g5 : (x.kind == 5) = true := by simp [h5]
    rw [if_pos h5] at hr
    by_cases hi : y.id = x.of_
    · have gi : (y.id == x.of_) = true := by simp [hi]
      rw [decide_eq_true hi] at hr
      have Hr := Lib.hid hr
      clear hr h5 hi
      go_enter Tryz.func142, Tryz.ntmps142
      go_upto_region 1 with fail
      rw [← hW]; clear hW
      go_wp2_with (fail)
      go_ret
      exact ⟨ret_bool (by rw [Hr.out]; simp [ieq]), hB⟩
    · have gi : (y.id == x.of_) = false := by simp [hi]
      rw [decide_eq_false hi] at hr
      have Hr := Lib.hid hr
      clear hr h5 hi
      go_enter Tryz.func142, Tryz.ntmps142
      go_upto_region 1 with fail
      rw [← hW]; clear hW
      go_wp2_with (fail)
      go_ret
      exact ⟨ret_bool (by rw [Hr.out]; simp), hB⟩
  · have g5 : (x.kind == 5) = false := by simp [h5]
    rw [if_neg h5] at hr
    by_cases hi : y.id = x.of_
    · have gi : (y.id == x.of_) = true := by simp [hi]
      rw [decide_eq_true hi] at hr
      have Hr := Lib.hid hr
      clear hr h5 hi
      go_enter Tryz.func142, Tryz.ntmps142
      go_upto_region 1 with fail
      rw [← hW]; clear hW
      go_wp2_with (fail)
      go_ret
      exact ⟨ret_bool (by rw [Hr.out]; simp [bne, ieq]), hB⟩
    · have gi : (y.id == x.of_) = false := by simp [hi]
      rw [decide_eq_false hi] at hr
      have Hr := Lib.hid hr
      clear hr h5 hi
      go_enter Tryz.func142, Tryz.ntmps142
      go_upto_region 1 with fail
      rw [← hW]; clear hW
      go_wp2_with (fail)
      go_ret
      exact ⟨ret_bool (by rw [Hr.out]; simp), hB⟩

set_option maxRecDepth 100000 in
set_option maxHeartbeats 800000 in
theorem folD2_any (x y : Deed) (B : Nat) (w : World) (k : Blk w B #[.int .i64 x.id, .int .i64 x.known, .int .i64 x.hour, .int .u8 x.kind, .int .i64 x.loss, .int .i64 x.pack, .int .i64 x.from_, .int .i64 x.to_, .int .i64 x.share.num, .int .i64 x.share.den, .int .i64 x.of_] 36) :
    Calls Tryz.prog 144 #[aD y, .pointer (some ⟨B, 0, none⟩)] w (Gives w (.bool (decide (y.id = x.id)))) := by
  obtain ⟨W, hW⟩ : ∃ W, W = w.alloc (.cells (cD y).toArray 36) := ⟨_, rfl⟩
  have hB : RowKit.Below w.heap.size w W := hW ▸ (Below.refl _ w).alloc (Nat.le_refl _) _
  have kX : Blk W B #[.int .i64 x.id, .int .i64 x.known, .int .i64 x.hour, .int .u8 x.kind, .int .i64 x.loss, .int .i64 x.pack, .int .i64 x.from_, .int .i64 x.to_, .int .i64 x.share.num, .int .i64 x.share.den, .int .i64 x.of_] 36 := hW ▸ k.alloc _
  have kY : Blk W w.heap.size (cD y).toArray 36 := hW ▸ Blk.new _ _ _
  have cX := kX.cell
  have cY := kY.cell
  go_enter Tryz.func144, Tryz.ntmps144
  go_upto_region 1 with fail
  rw [← hW]; clear hW
  go_wp2_with (fail)
  go_ret
  exact ⟨ret_bool (by first | rfl | simp [ieq]), hB⟩

set_option maxRecDepth 100000 in
set_option maxHeartbeats 800000 in
theorem folD3_any (x y : Deed) (B : Nat) (w : World) (k : Blk w B #[.int .i64 x.id, .int .i64 x.known, .int .i64 x.hour, .int .u8 x.kind, .int .i64 x.loss, .int .i64 x.pack, .int .i64 x.from_, .int .i64 x.to_, .int .i64 x.share.num, .int .i64 x.share.den, .int .i64 x.of_] 36) :
    Calls Tryz.prog 145 #[aD y, .pointer (some ⟨B, 0, none⟩)] w (Gives w (.bool (decide (y.kind = 6) && decide (y.of_ = x.of_)))) := by
  obtain ⟨W, hW⟩ : ∃ W, W = w.alloc (.cells (cD y).toArray 36) := ⟨_, rfl⟩
  have hB : RowKit.Below w.heap.size w W := hW ▸ (Below.refl _ w).alloc (Nat.le_refl _) _
  have kX : Blk W B #[.int .i64 x.id, .int .i64 x.known, .int .i64 x.hour, .int .u8 x.kind, .int .i64 x.loss, .int .i64 x.pack, .int .i64 x.from_, .int .i64 x.to_, .int .i64 x.share.num, .int .i64 x.share.den, .int .i64 x.of_] 36 := hW ▸ k.alloc _
  have kY : Blk W w.heap.size (cD y).toArray 36 := hW ▸ Blk.new _ _ _
  have cX := kX.cell
  have cY := kY.cell
  by_cases h6 : y.kind = 6
  · have g6 : (y.kind == 6) = true := by simp [h6]
    have H6 := Lib.hid h6
    clear h6
    go_enter Tryz.func145, Tryz.ntmps145
    go_upto_region 1 with fail
    rw [← hW]; clear hW
    go_wp2_with (fail)
    go_ret
    exact ⟨ret_bool (by simp [H6.out, ieq]), hB⟩
  · have g6 : (y.kind == 6) = false := by simp [h6]
    have H6 := Lib.hid h6
    clear h6
    go_enter Tryz.func145, Tryz.ntmps145
    go_upto_region 1 with fail
    rw [← hW]; clear hW
    go_wp2_with (fail)
    go_ret
    exact ⟨ret_bool (by simp [H6.out]), hB⟩

theorem someD_any (p : Deed → Bool) (g : Nat) (lb : Array Value) (eg : ∀ args w, (callFunc g args).run Tryz.prog w = .ok (.enter g args) w) (a : Option Addr) (n cap : Nat) (xs : List Deed) (w : World) (hL : Lst w 11 cD a n cap xs)
    (hp : ∀ W x, Below w.heap.size w W → Calls Tryz.prog g (#[aD x] ++ lb) W (Gives W (.bool (p x)))) :
    Calls Tryz.prog 143 #[.slice a n cap, .func (.func g) #[] lb] w (Gives w (.bool (xs.any p))) := by
  have hc := contD_any p g lb eg a n cap xs w hL hp
  generalize xs.any p = q at *
  clear hp hL
  go_enter Tryz.func143, Tryz.ntmps143
  go_wp2_with (go_at_call 180; refine hc.mono ?_; rintro e w' ⟨rfl, hb'⟩)
  go_ret
  exact ⟨rfl, hb'⟩

set_option maxRecDepth 100000 in
set_option maxHeartbeats 6400000 in
theorem followsD_any (a : Option Addr) (n cap : Nat) (xs : List Deed) (x : Deed) (w : World) (hL : Lst w 11 cD a n cap xs) :
    Calls Tryz.prog 89 #[.slice a n cap, aD x] w (Gives w (.int .i64 (followsD xs x))) := by
  obtain ⟨r, hr⟩ : ∃ r, r = followsD xs x := ⟨_, rfl⟩
  rw [← hr]
  unfold followsD at hr
  obtain ⟨q1, hq1⟩ : ∃ q, q = xs.any (fun y : Deed => decide (y.id = x.id)) := ⟨_, rfl⟩
  obtain ⟨q2, hq2⟩ : ∃ q, q = xs.any (namedD x) := ⟨_, rfl⟩
  obtain ⟨q3, hq3⟩ : ∃ q, q = xs.any (fun y : Deed => decide (y.kind = 6) && decide (y.of_ = x.of_)) := ⟨_, rfl⟩
  obtain ⟨q0, hq0⟩ : ∃ q, q = formedD x := ⟨_, rfl⟩
  rw [← hq1, ← hq2, ← hq3, ← hq0] at hr
  have hF := fun W => formed_any x W
  rw [← hq0] at hF
  have Hq0 := Lib.hid hq0
  clear hq0
  have hlen := hL.len
  rw [hlen] at hr
  have Hlen := Lib.hid hlen
  clear hlen
  have Hr := Lib.hid hr; clear hr
  have hm : cap ≤ 9223372036854775807 := by have := hL.max; unfold maxLen at this; omega
  have hle := hL.le
  have eg1 : ∀ args w, (callFunc 142 args).run Tryz.prog w = .ok (.enter 142 args) w := enters_of Tryz.func142 (by kernel_rfl) rfl
  have eg2 : ∀ args w, (callFunc 144 args).run Tryz.prog w = .ok (.enter 144 args) w := enters_of Tryz.func144 (by kernel_rfl) rfl
  have eg3 : ∀ args w, (callFunc 145 args).run Tryz.prog w = .ok (.enter 145 args) w := enters_of Tryz.func145 (by kernel_rfl) rfl
  have hmf : ∀ (fn : Fn) (first cap : Array Value) (w : World), (Instr.makeFunc fn first cap).run Tryz.prog w = .ok (.func fn first cap) w := fun _ _ _ _ => rfl
  obtain ⟨w0, hw0⟩ : ∃ w0, w0 = w.alloc (.cells #[.int .i64 x.id, .int .i64 x.known, .int .i64 x.hour, .int .u8 x.kind, .int .i64 x.loss, .int .i64 x.pack, .int .i64 x.from_, .int .i64 x.to_, .int .i64 x.share.num, .int .i64 x.share.den, .int .i64 x.of_] 36) := ⟨_, rfl⟩
  have k0 : Blk w0 w.heap.size #[.int .i64 x.id, .int .i64 x.known, .int .i64 x.hour, .int .u8 x.kind, .int .i64 x.loss, .int .i64 x.pack, .int .i64 x.from_, .int .i64 x.to_, .int .i64 x.share.num, .int .i64 x.share.den, .int .i64 x.of_] 36 := hw0 ▸ Blk.new _ _ _
  have hB0 : RowKit.Below w.heap.size w w0 := hw0 ▸ (Below.refl _ w).alloc (Nat.le_refl _) _
  have C1 := Lib.hid (fun W (h : RowKit.Below w0.heap.size w0 W) => (someD_any (fun y : Deed => decide (y.id = x.id)) 144 #[.pointer (some ⟨w.heap.size, 0, none⟩)] eg2 a n cap xs W (hL.below (hB0.trans (h.mono hB0.size))) (fun W' y hW' => folD2_any x y w.heap.size W' ((k0.below' h).below' hW'))))
  have C2 := Lib.hid (fun W (h : RowKit.Below w0.heap.size w0 W) => (someD_any (namedD x) 142 #[.pointer (some ⟨w.heap.size, 0, none⟩)] eg1 a n cap xs W (hL.below (hB0.trans (h.mono hB0.size))) (fun W' y hW' => folD1_any x y w.heap.size W' ((k0.below' h).below' hW'))))
  have C3 := Lib.hid (fun W (h : RowKit.Below w0.heap.size w0 W) => (someD_any (fun y : Deed => decide (y.kind = 6) && decide (y.of_ = x.of_)) 145 #[.pointer (some ⟨w.heap.size, 0, none⟩)] eg3 a n cap xs W (hL.below (hB0.trans (h.mono hB0.size))) (fun W' y hW' => folD3_any x y w.heap.size W' ((k0.below' h).below' hW'))))
  rw [← hq1] at C1
  rw [← hq2] at C2
  rw [← hq3] at C3
  clear hq1 hq2 hq3 eg1 eg2 eg3
  have hBw := hB0
  clear hB0
  go_enter Tryz.func89, Tryz.ntmps89
  go_upto_region 1 with fail
  rw [← hw0]
  clear hw0
  obtain ⟨bx, hbx⟩ : ∃ bx, bx = w.heap.size := ⟨_, rfl⟩
  rw [← hbx] at k0 C1 C2 C3 ⊢
  clear hbx
  by_cases h1 : 300 ≤ n
  · go_wp2_with (fail)
    go_ret
    exact ⟨ret_int (by rw [Hr.out, if_pos h1]), hBw⟩
  have Hr1 := Lib.hid (Hr.out.trans (if_neg h1))
  clear Hr
  have c0 := k0.cell
  go_upto_region 4 with fail
  go_wp2_with (first | (refine wpList_load_mid rfl 36 _ rfl bx 0 rfl (cD x) _ (k0.range 0 _ (fun j v h => by simpa using h)) Tryz.underlying36 rfl (by kernel_rfl) ?_) | fail)
  refine (hF _).mono ?_
  clear hF
  rintro e w1 ⟨rfl, hb⟩
  have hB := hb
  clear hb c0
  cases q0 with
  | false =>
    go_wp2_with (fail)
    go_ret
    exact ⟨ret_int (by rw [Hr1.out]; simp), hBw.trans (hB.mono hBw.size)⟩
  | true =>
    have Hr2 := Lib.hid (Hr1.out.trans (if_neg (by decide)))
    clear Hr1
    go_wp2_with (fail)
    refine (C1.out _ hB).mono ?_
    clear C1
    rintro e w2 ⟨rfl, hb⟩
    have hB := hB.trans (hb.mono hB.size)
    clear hb
    cases q1 with
    | true =>
      go_wp2_with (fail)
      go_ret
      exact ⟨ret_int (by rw [Hr2.out]; simp), hBw.trans (hB.mono hBw.size)⟩
    | false =>
      have Hr3 := Lib.hid (Hr2.out.trans (if_neg (by decide)))
      clear Hr2
      have k2 := k0.below' hB
      have c1 := cell_regrown (k2.cell 1)
      go_upto_region 8 with fail
      obtain ⟨q4, hq4⟩ : ∃ q, q = lateD xs x := ⟨_, rfl⟩
      have Hq4 := Lib.hid hq4
      rw [← hq4] at Hr3
      clear hq4
      go_cut [19] (fun c19 W => c19 = .bool q4 ∧ RowKit.Below w0.heap.size w0 W)
      case first =>
        clear Hr3 C2 C3 Hq0
        rcases Nat.eq_zero_or_pos n with h0 | h0
        · subst h0
          have hx0 : q4 = false := by rw [Hq4.out]; unfold lateD; rw [List.eq_nil_of_length_eq_zero Hlen.out]; rfl
          have Hx0 := Lib.hid hx0
          clear hx0 Hq4
          refine wp_region_quiet_below (by kernel_rfl) (by kernel_rfl) ?_
          repeat (go_big_quiet_step (fail))
          refine wpQuiet_nil ?_
          intro _ hw'
          obtain ⟨⟨dq, osq⟩, hw''⟩ := hw'
          subst hw''
          clear c1
          go_wp2_with fail
          go_meet
          exact ⟨by rw [Hx0.out], hB.trans ((below_regrown w2 dq osq).mono hB.size)⟩
        · obtain ⟨m, rfl⟩ : ∃ m, n = m + 1 := ⟨n - 1, by omega⟩
          obtain ⟨y, hy⟩ : ∃ y, xs[m]? = some y := ⟨xs[m]'(by rw [Hlen.out]; omega), by simp⟩
          obtain ⟨b, off, rfl, hb, hry⟩ := (hL.below (hBw.trans (hB.mono hBw.size))).at_ m y hy
          have hx0 : q4 = decide (x.known < y.known) := by
            have hly : xs.getLast? = some y := by rw [List.getLast?_eq_getElem?, Hlen.out]; exact hy
            rw [Hq4.out]; unfold lateD; rw [hly]
          have Hx0 := Lib.hid hx0
          have l1 := cell_regrown (hry 1 _ rfl)
          clear hx0 Hq4 hry hy hL Hlen
          refine wp_region_quiet_below (by kernel_rfl) (by kernel_rfl) ?_
          repeat (go_big_quiet_step (fail))
          refine wpQuiet_nil ?_
          intro _ hw'
          obtain ⟨⟨dq, osq⟩, hw''⟩ := hw'
          subst hw''
          clear c1 l1
          go_wp2_with fail
          go_meet
          exact ⟨by rw [Hx0.out], hB.trans ((below_regrown w2 dq osq).mono hB.size)⟩
      case rest =>
        obtain ⟨rfl, hB⟩ := hcut
        obtain ⟨w6, hw6⟩ : ∃ w6, w6 = wc := ⟨_, rfl⟩
        rw [← hw6] at hB ⊢
        clear hw6 c1 k2 Hq4
        have k6 := k0.below' hB
        have c6 := k6.cell
        cases q4 with
        | true =>
          go_wp2_with (fail)
          go_ret
          exact ⟨ret_int (by rw [Hr3.out]; simp), hBw.trans (hB.mono hBw.size)⟩
        | false =>
          have Hr4 := Lib.hid (Hr3.out.trans (if_neg (by decide)))
          clear Hr3
          by_cases h8 : 0 < x.of_
          · have d8 : decide (0 < x.of_) = true := decide_eq_true h8
            go_wp2_with (fail)
            refine (C2.out _ hB).mono ?_
            clear C2
            rintro e w7 ⟨rfl, hb⟩
            have k7 := k6.below' hb
            have hB := hB.trans (hb.mono hB.size)
            clear hb c6
            have c7 := k7.cell
            cases q2 with
            | false =>
              go_wp2_with (fail)
              go_ret
              exact ⟨ret_int (by rw [Hr4.out]; simp [h8]), hBw.trans (hB.mono hBw.size)⟩
            | true =>
              have Hr5 := Lib.hid (Hr4.out.trans (if_neg (by simp)))
              clear Hr4
              by_cases h9 : x.kind = 6
              · have d9 : (x.kind == 6) = true := by simp [h9]
                have H9 := Lib.hid h9
                clear h9
                go_wp2_with (fail)
                refine (C3.out _ hB).mono ?_
                clear C3
                rintro e w8 ⟨rfl, hb⟩
                have hB := hB.trans (hb.mono hB.size)
                clear hb c7
                cases q3
                all_goals
                  go_wp2_with (fail)
                  go_ret
                  exact ⟨ret_int (by rw [Hr5.out, H9.out]; rfl), hBw.trans (hB.mono hBw.size)⟩
              · have d9 : (x.kind == 6) = false := by simp [h9]
                have H9 := Lib.hid h9
                clear h9
                go_wp2_with (fail)
                go_ret
                exact ⟨ret_int (by rw [Hr5.out, if_neg (fun q => H9.out q.1)]), hBw.trans (hB.mono hBw.size)⟩
          · have d8 : decide (0 < x.of_) = false := decide_eq_false h8
            have Hr5 := Lib.hid (Hr4.out.trans (if_neg (fun q => h8 q.1)))
            clear Hr4
            by_cases h9 : x.kind = 6
            · have d9 : (x.kind == 6) = true := by simp [h9]
              have H9 := Lib.hid h9
              clear h9
              go_wp2_with (fail)
              refine (C3.out _ hB).mono ?_
              clear C3
              rintro e w8 ⟨rfl, hb⟩
              have hB := hB.trans (hb.mono hB.size)
              clear hb c6
              cases q3
              all_goals
                go_wp2_with (fail)
                go_ret
                exact ⟨ret_int (by rw [Hr5.out, H9.out]; rfl), hBw.trans (hB.mono hBw.size)⟩
            · have d9 : (x.kind == 6) = false := by simp [h9]
              have H9 := Lib.hid h9
              clear h9
              go_wp2_with (fail)
              go_ret
              exact ⟨ret_int (by rw [Hr5.out, if_neg (fun q => H9.out q.1)]), hBw.trans (hB.mono hBw.size)⟩

end Go.Proofs.YtmeomhojbobpbaaGreatDoor
