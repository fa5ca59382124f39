import Derived.Test.YtmeomhojbobpbaaGreatDoorPart18
import Derived.OrdersHeld
import Derived.StillTail
import Derived.Deep.RegionHeld
import Derived.Test.YtmeomhojbobpbaaGreatDoorPart02
import Derived.Test.YtmeomhojbobpbaaGreatDoorPart06
import Derived.Sort.LotA
import Derived.Test.YtmeomhojbobpbaaGreatDoorPart07
/-
  Walk: claim.Read.
-/
namespace Go.Proofs.YtmeomhojbobpbaaGreatDoor
open Go.RowKit Lg Go.Sort Go.Shelf

set_option maxRecDepth 100000 in
set_option maxHeartbeats 1600000 in
theorem readD_any (line : ByteArray) (w : World) (hV : Vs w) (hs : line.size ≤ 1000) : Calls Tryz.prog 22 #[.string line] w (Gives w (.tuple #[aD (readD line).1, .int .i64 (readD line).2])) := by
  obtain ⟨w0, hw0⟩ : ∃ w0, w0 = w.alloc (.cells #[.int .i64 0, .int .i64 0, .int .i64 0, .int .u8 0, .int .i64 0, .int .i64 0, .int .i64 0, .int .i64 0, .int .i64 0, .int .i64 0, .int .i64 0] 36) := ⟨_, rfl⟩
  have kZ : Blk w0 w.heap.size #[.int .i64 0, .int .i64 0, .int .i64 0, .int .u8 0, .int .i64 0, .int .i64 0, .int .i64 0, .int .i64 0, .int .i64 0, .int .i64 0, .int .i64 0] 36 := hw0 ▸ Blk.new _ _ _
  have hB0 : RowKit.Below w.heap.size w w0 := hw0 ▸ (Below.refl _ w).alloc (Nat.le_refl _) _
  have hp := parsed_any line w0 (hV.below hB0) hs
  unfold readD
  generalize parseD (cutL line.data.toList) = x at *
  have hwr := fun W (h : RowKit.Below w.heap.size w W) => writeD_any x W (hV.below h)
  clear hV hs
  cases ho : formedD x with
  | false =>
    rw [if_neg (fun h => absurd h.1 (by decide))]
    have hx : writeD x = (⟨#[]⟩, 1) := by unfold writeD; rw [ho]; rfl
    rw [hx] at hwr
    have Hw := Lib.hid hwr
    clear hwr hx ho
    go_enter Tryz.func22, Tryz.ntmps22
    go_upto_region 1 with fail
    rw [← hw0]
    clear hw0
    obtain ⟨bz, hbz⟩ : ∃ b, b = w.heap.size := ⟨_, rfl⟩
    rw [← hbz] at kZ ⊢
    have Hbz := Lib.hid hbz
    clear hbz
    go_wp2_with (fail)
    refine hp.mono ?_
    clear hp
    rintro e w1 ⟨rfl, hB1⟩
    have hb1 := hB0.trans (hB1.mono hB0.size)
    have hb2 := hb1.alloc hb1.size (.cells #[.int .i64 x.id, .int .i64 x.known, .int .i64 x.hour, .int .u8 x.kind, .int .i64 x.loss, .int .i64 x.pack, .int .i64 x.from_, .int .i64 x.to_, .int .i64 x.share.num, .int .i64 x.share.den, .int .i64 x.of_] 36)
    have kX := Blk.new w1 36 #[.int .i64 x.id, .int .i64 x.known, .int .i64 x.hour, .int .u8 x.kind, .int .i64 x.loss, .int .i64 x.pack, .int .i64 x.from_, .int .i64 x.to_, .int .i64 x.share.num, .int .i64 x.share.den, .int .i64 x.of_]
    have kZ1 := (kZ.below' hB1).alloc (.cells #[.int .i64 x.id, .int .i64 x.known, .int .i64 x.hour, .int .u8 x.kind, .int .i64 x.loss, .int .i64 x.pack, .int .i64 x.from_, .int .i64 x.to_, .int .i64 x.share.num, .int .i64 x.share.den, .int .i64 x.of_] 36)
    have hW := Hw.out _ hb2
    clear hb1 hB1 kZ
    go_wp2_with (first
      | (refine wpList_load_mid rfl 36 _ rfl w1.heap.size 0 rfl (cD x) _ (kX.range 0 _ (fun j v h => by simpa using h)) Tryz.underlying36 rfl (by kernel_rfl) ?_)
      | fail)
    refine hW.mono ?_
    clear hW
    rintro e w3 ⟨rfl, hB3⟩
    have hb3 := hb2.trans (hB3.mono hb2.size)
    have kX3 := kX.below' hB3
    have kZ3 := kZ1.below' hB3
    clear kX kZ1 hB3 hb2
    have eZ := kZ3.cell
    have gZ := kZ3.frozen
    have lZ := kZ3.lt
    go_wp2_with (first
      | (refine wpList_load_mid rfl 36 _ rfl w1.heap.size 0 rfl (cD x) _ (kX3.range 0 _ (fun j v h => by simpa using h)) Tryz.underlying36 rfl (by kernel_rfl) ?_)
      | fail)
    rw [putDD]
    have kF : Blk (w3.setCells bz 0 (cD zeroDeed)) bz (cD zeroDeed).toArray 36 := by
      have q := kZ3.setCells 0 (cD zeroDeed)
      rwa [setAll_zeroD zeroDeed] at q
    (try simp only [Exit.inBlock, Exit.then]); refine bodyPost_ret (results_cell_tmp rfl _ _ bz 36 (cD zeroDeed) _ rfl kF Tryz.underlying36 rfl (by kernel_rfl)) rfl ?_
    exact ⟨rfl, below_setCells hb3 (Nat.le_of_eq Hbz.out.symm) 0 _⟩
  | true =>
    have hx : writeD x = (lineD x, 0) := by unfold writeD; rw [ho]; rfl
    rw [hx] at hwr
    have he := toList_beq (lineD x) line
    generalize lineD x = ln at *
    have Hw := Lib.hid hwr
    clear hwr hx ho
    by_cases hl : ln = line
    · rw [if_pos ⟨rfl, hl⟩]
      rw [decide_eq_true hl] at he
      have he2 : (ln.toList != line.toList) = false := by rw [bne, he]; rfl
      clear hl
      go_enter Tryz.func22, Tryz.ntmps22
      go_upto_region 1 with fail
      rw [← hw0]
      clear hw0
      obtain ⟨bz, hbz⟩ : ∃ b, b = w.heap.size := ⟨_, rfl⟩
      rw [← hbz] at kZ ⊢
      have Hbz := Lib.hid hbz
      clear hbz
      go_wp2_with (fail)
      refine hp.mono ?_
      clear hp
      rintro e w1 ⟨rfl, hB1⟩
      have hb1 := hB0.trans (hB1.mono hB0.size)
      have hb2 := hb1.alloc hb1.size (.cells #[.int .i64 x.id, .int .i64 x.known, .int .i64 x.hour, .int .u8 x.kind, .int .i64 x.loss, .int .i64 x.pack, .int .i64 x.from_, .int .i64 x.to_, .int .i64 x.share.num, .int .i64 x.share.den, .int .i64 x.of_] 36)
      have kX := Blk.new w1 36 #[.int .i64 x.id, .int .i64 x.known, .int .i64 x.hour, .int .u8 x.kind, .int .i64 x.loss, .int .i64 x.pack, .int .i64 x.from_, .int .i64 x.to_, .int .i64 x.share.num, .int .i64 x.share.den, .int .i64 x.of_]
      have kZ1 := (kZ.below' hB1).alloc (.cells #[.int .i64 x.id, .int .i64 x.known, .int .i64 x.hour, .int .u8 x.kind, .int .i64 x.loss, .int .i64 x.pack, .int .i64 x.from_, .int .i64 x.to_, .int .i64 x.share.num, .int .i64 x.share.den, .int .i64 x.of_] 36)
      have hW := Hw.out _ hb2
      clear hb1 hB1 kZ
      go_wp2_with (first
        | (refine wpList_load_mid rfl 36 _ rfl w1.heap.size 0 rfl (cD x) _ (kX.range 0 _ (fun j v h => by simpa using h)) Tryz.underlying36 rfl (by kernel_rfl) ?_)
        | fail)
      refine hW.mono ?_
      clear hW
      rintro e w3 ⟨rfl, hB3⟩
      have hb3 := hb2.trans (hB3.mono hb2.size)
      have kX3 := kX.below' hB3
      have kZ3 := kZ1.below' hB3
      clear kX kZ1 hB3 hb2
      have eZ := kZ3.cell
      have gZ := kZ3.frozen
      have lZ := kZ3.lt
      go_wp2_with (first
        | (refine wpList_load_mid rfl 36 _ rfl w1.heap.size 0 rfl (cD x) _ (kX3.range 0 _ (fun j v h => by simpa using h)) Tryz.underlying36 rfl (by kernel_rfl) ?_)
        | fail)
      rw [putDD]
      have kF : Blk (w3.setCells bz 0 (cD x)) bz (cD x).toArray 36 := by
        have q := kZ3.setCells 0 (cD x)
        rwa [setAll_zeroD x] at q
      (try simp only [Exit.inBlock, Exit.then]); refine bodyPost_ret (results_cell_tmp rfl _ _ bz 36 (cD x) _ rfl kF Tryz.underlying36 rfl (by kernel_rfl)) rfl ?_
      exact ⟨rfl, below_setCells hb3 (Nat.le_of_eq Hbz.out.symm) 0 _⟩
    · rw [if_neg (fun h => hl h.2)]
      rw [decide_eq_false hl] at he
      have he2 : (ln.toList != line.toList) = true := by rw [bne, he]; rfl
      clear hl
      go_enter Tryz.func22, Tryz.ntmps22
      go_upto_region 1 with fail
      rw [← hw0]
      clear hw0
      obtain ⟨bz, hbz⟩ : ∃ b, b = w.heap.size := ⟨_, rfl⟩
      rw [← hbz] at kZ ⊢
      have Hbz := Lib.hid hbz
      clear hbz
      go_wp2_with (fail)
      refine hp.mono ?_
      clear hp
      rintro e w1 ⟨rfl, hB1⟩
      have hb1 := hB0.trans (hB1.mono hB0.size)
      have hb2 := hb1.alloc hb1.size (.cells #[.int .i64 x.id, .int .i64 x.known, .int .i64 x.hour, .int .u8 x.kind, .int .i64 x.loss, .int .i64 x.pack, .int .i64 x.from_, .int .i64 x.to_, .int .i64 x.share.num, .int .i64 x.share.den, .int .i64 x.of_] 36)
      have kX := Blk.new w1 36 #[.int .i64 x.id, .int .i64 x.known, .int .i64 x.hour, .int .u8 x.kind, .int .i64 x.loss, .int .i64 x.pack, .int .i64 x.from_, .int .i64 x.to_, .int .i64 x.share.num, .int .i64 x.share.den, .int .i64 x.of_]
      have kZ1 := (kZ.below' hB1).alloc (.cells #[.int .i64 x.id, .int .i64 x.known, .int .i64 x.hour, .int .u8 x.kind, .int .i64 x.loss, .int .i64 x.pack, .int .i64 x.from_, .int .i64 x.to_, .int .i64 x.share.num, .int .i64 x.share.den, .int .i64 x.of_] 36)
      have hW := Hw.out _ hb2
      clear hb1 hB1 kZ
      go_wp2_with (first
        | (refine wpList_load_mid rfl 36 _ rfl w1.heap.size 0 rfl (cD x) _ (kX.range 0 _ (fun j v h => by simpa using h)) Tryz.underlying36 rfl (by kernel_rfl) ?_)
        | fail)
      refine hW.mono ?_
      clear hW
      rintro e w3 ⟨rfl, hB3⟩
      have hb3 := hb2.trans (hB3.mono hb2.size)
      have kX3 := kX.below' hB3
      have kZ3 := kZ1.below' hB3
      clear kX kZ1 hB3 hb2
      have eZ := kZ3.cell
      have gZ := kZ3.frozen
      have lZ := kZ3.lt
      go_wp2_with (first
        | (refine wpList_load_mid rfl 36 _ rfl w1.heap.size 0 rfl (cD x) _ (kX3.range 0 _ (fun j v h => by simpa using h)) Tryz.underlying36 rfl (by kernel_rfl) ?_)
        | fail)
      rw [putDD]
      have kF : Blk (w3.setCells bz 0 (cD zeroDeed)) bz (cD zeroDeed).toArray 36 := by
        have q := kZ3.setCells 0 (cD zeroDeed)
        rwa [setAll_zeroD zeroDeed] at q
      (try simp only [Exit.inBlock, Exit.then]); refine bodyPost_ret (results_cell_tmp rfl _ _ bz 36 (cD zeroDeed) _ rfl kF Tryz.underlying36 rfl (by kernel_rfl)) rfl ?_
      exact ⟨rfl, below_setCells hb3 (Nat.le_of_eq Hbz.out.symm) 0 _⟩

end Go.Proofs.YtmeomhojbobpbaaGreatDoor

/-
  Regions that draw their order and store at their end: what is loaded may be taken first, for the stores wait for it.
-/
namespace Go.Proofs.YtmeomhojbobpbaaGreatDoor
open Go.RowKit
section
variable {P : Program} {ops : Array Oper} {Q : Exit → Act → World → Prop} {md : Region.Mode} {S T : World → Prop} {m : Nat}

/-- What is known between two operations: S; and T till number m has come up. -/
def SofT (S T : World → Prop) (m : Nat) (listed : Array Bool) (w : World) : Prop := S w ∧ (listed.getD m false = false → T w)

/-- Whatever order is picked, what is known is shown behind each operation. -/
def wpAnyT (P : Program) (md : Region.Mode) (ops : Array Oper) (Q : Exit → Act → World → Prop) (S T : World → Prop) (m : Nat) : Nat → Array Bool → Act → World → Prop
  | 0, listed, a, w => Region.ready md ops listed = [] ∧ Q .normal a w
  | fuel + 1, listed, a, w => (Region.ready md ops listed = [] → Q .normal a w) ∧
    ∀ i ∈ Region.ready md ops listed, wpOp P ops Q i (fun a' w' => SofT S T m (listed.setIfInBounds i true) w' ∧ wpAnyT P md ops Q S T m fuel (listed.setIfInBounds i true) a' w') a w

theorem wpAny_of_T : ∀ (fuel : Nat) (listed : Array Bool) (a : Act) (w : World), wpAnyT P md ops Q S T m fuel listed a w → wpAny P md ops Q fuel listed a w
  | 0, _, _, _, h => h
  | fuel + 1, _, _, _, h => ⟨h.1, fun i hi => wpOp_mono (fun a' w' q => wpAny_of_T fuel _ a' w' q.2) (h.2 i hi)⟩

theorem SofT.set {listed : Array Bool} {w : World} (h : SofT S T m listed w) (i : Nat) : SofT S T m (listed.setIfInBounds i true) w :=
  ⟨h.1, fun q => h.2 (by
    cases hm : listed.getD m false with
    | false => rfl
    | true => rw [getD_set_true hm] at q; cases q)⟩

/-- b: the value is known by S and T, and number m waits for the operation; else it is known by S. -/
theorem wpAnyT_first (b : Bool) {i : Nat} {oi : Oper} {v : Value} (hi : ops[i]? = some oi) (hsel : ∀ (j : Nat) (o : Oper) cs b, ops[j]? = some o → o.op ≠ .select cs b)
    (hQ : ∀ c a w, Q (.panic c) (a.put oi.dst v) w → Q (.panic c) a w) (hb : b = true → Region.waitsFor md ops m i = true) (him : i ≠ m) :
    ∀ (fuel : Nat) (listed : Array Bool) (a : Act) (w : World),
      (∀ j oj, ops[j]? = some oj → j ≠ i → listed.getD j true = false → (∀ e ∈ oj.after, Region.binds md e = true → e.on ≠ i) → oi.apart ops oj = true) →
      i ∈ Region.ready md ops listed → YieldsIf P ops (fun w => S w ∧ (b = true → T w)) oi v a → (b = true → listed.getD m false = false) → SofT S T m listed w →
      wpAnyT P md ops Q S T m fuel (listed.setIfInBounds i true) (a.put oi.dst v) w → wpAnyT P md ops Q S T m (fuel + 1) listed a w := by
  have gk : ∀ {listed : Array Bool} {w : World}, (b = true → listed.getD m false = false) → SofT S T m listed w → S w ∧ (b = true → T w) := fun hm hC => ⟨hC.1, fun hb => hC.2 (hm hb)⟩
  intro fuel
  induction fuel with
  | zero =>
    intro listed a w _ hr hy hm hC H
    refine ⟨fun h => (by rw [h] at hr; cases hr), fun j hj => ?_⟩
    by_cases hji : j = i
    · subst hji; exact hy.wpOp hi (gk hm hC) ⟨hC.set _, H⟩
    · have := ready_mono hj hji
      rw [H.1] at this
      cases this
  | succ fuel ih =>
    intro listed a w hfree hr hy hm hC H
    refine ⟨fun h => (by rw [h] at hr; cases hr), fun j hj => ?_⟩
    by_cases hji : j = i
    · subst hji; exact hy.wpOp hi (gk hm hC) ⟨hC.set _, H⟩
    have h1 := H.2 j (ready_mono hj hji)
    obtain ⟨hjun, oj, hoj, hall⟩ := mem_ready.1 hj
    have hnot : ∀ e ∈ oj.after, Region.binds md e = true → e.on ≠ i := fun e he hb heq => by
      have q1 := hall e he hb
      have q0 := (mem_ready.1 hr).1
      rw [heq] at q1
      rcases Nat.lt_or_ge i listed.size with h' | h'
      · simp [h'] at q0 q1; rw [q0] at q1; cases q1
      · simp [Array.getElem?_eq_none h'] at q1
    have hm' : b = true → (listed.setIfInBounds j true).getD m false = false := fun q => by
      have hjm : j ≠ m := fun e => by
        obtain ⟨o, ho, e', he', hb', hon⟩ := Region.waitsFor_spec (hb q)
        rw [← e, hoj] at ho; cases ho
        exact hnot e' he' hb' hon
      rw [getD_set_ne false hjm]; exact hm q
    have h2 := wpOp_putIf hoj (hfree j oj hoj hji hjun hnot) (fun cs b => hsel i oi cs b hi) (fun cs b => hsel j oj cs b hoj) hQ hy h1
    have hfree2 : ∀ k ok, ops[k]? = some ok → k ≠ i → (listed.setIfInBounds j true).getD k true = false →
        (∀ e ∈ ok.after, Region.binds md e = true → e.on ≠ i) → oi.apart ops ok = true := fun k ok hk hki hun hno => by
      refine hfree k ok hk hki ?_ hno
      by_cases hjk : j = k
      · subst hjk; exact hjun
      · rw [getD_set_ne true hjk] at hun; exact hun
    refine wpOp_mono (fun a' w' h3 => ?_) h2
    have h4 : SofT S T m (listed.setIfInBounds j true) w' := by
      refine ⟨h3.2.1.1, fun q => h3.2.1.2 ?_⟩
      rw [Array.setIfInBounds_comm _ _ (Ne.symm hji), getD_set_ne false him]
      exact q
    exact ⟨h4, ih (listed.setIfInBounds j true) a' w' hfree2 (ready_mono hr (Ne.symm hji)) h3.1 hm' h4 (by rw [Array.setIfInBounds_comm _ _ hji]; exact h3.2.2)⟩

/-- Taken first: its value is known by S and T, and the first store waits for it. -/
theorem wpAnyT_take {i : Nat} {oi : Oper} {v : Value} {fuel : Nat} {listed : Array Bool} {a : Act} {w : World} (hi : ops[i]? = some oi)
    (hs : Region.noSelect ops = true) (hf : Region.free md ops listed i = true) (hr : (Region.ready md ops listed).contains i = true) (ht : Region.waitsFor md ops m i = true) (him : Nat.beq i m = false) (hm : listed.getD m false = false)
    (hQ : ∀ c a w, Q (.panic c) (a.put oi.dst v) w → Q (.panic c) a w) (hy : YieldsIf P ops (fun w => S w ∧ T w) oi v a) (hS : S w) (hT : T w)
    (h : wpAnyT P md ops Q S T m fuel (listed.setIfInBounds i true) (a.put oi.dst v) w) : wpAnyT P md ops Q S T m (fuel + 1) listed a w :=
  wpAnyT_first true hi (Region.noSelect_spec hs) hQ (fun _ => ht) (Nat.ne_of_beq_eq_false him) fuel listed a w (Region.free_spec hi hf) (by simpa using hr)
    (by unfold YieldsIf at *; simpa using hy) (fun _ => hm) ⟨hS, fun _ => hT⟩ h

/-- Taken first: its value is known by S alone. -/
theorem wpAnyT_takeS {i : Nat} {oi : Oper} {v : Value} {fuel : Nat} {listed : Array Bool} {a : Act} {w : World} (hi : ops[i]? = some oi)
    (hs : Region.noSelect ops = true) (hf : Region.free md ops listed i = true) (hr : (Region.ready md ops listed).contains i = true) (him : Nat.beq i m = false)
    (hQ : ∀ c a w, Q (.panic c) (a.put oi.dst v) w → Q (.panic c) a w) (hy : YieldsIf P ops S oi v a) (hS : S w) (hT : listed.getD m false = false → T w)
    (h : wpAnyT P md ops Q S T m fuel (listed.setIfInBounds i true) (a.put oi.dst v) w) : wpAnyT P md ops Q S T m (fuel + 1) listed a w :=
  wpAnyT_first false hi (Region.noSelect_spec hs) hQ (fun q => by cases q) (Nat.ne_of_beq_eq_false him) fuel listed a w (Region.free_spec hi hf) (by simpa using hr)
    (by unfold YieldsIf at *; simpa using hy) (fun q => by cases q) ⟨hS, hT⟩ h

/-- The one that may come up. -/
theorem wpAnyT_one {j : Nat} {o : Oper} {fuel : Nat} {listed : Array Bool} {a : Act} {w : World} (ho : ops[j]? = some o) (hr : Region.ready md ops listed = [j]) (hw : Region.wanted o (yielded ops a.tmps) = true)
    (h : ∀ K : Act → World → Prop, Shut (∀ a w, S w → ((listed.setIfInBounds j true).getD m false = false → T w) → wpAnyT P md ops Q S T m fuel (listed.setIfInBounds j true) a w → K a w) → Oper.wp P o a w K Q) :
    wpAnyT P md ops Q S T m (fuel + 1) listed a w := by
  refine ⟨fun h0 => (by rw [hr] at h0; cases h0), fun i hi => ?_⟩
  rw [hr] at hi
  obtain rfl := List.mem_singleton.1 hi
  unfold wpOp
  simp only [ho, hw, if_true]
  exact .inl (h _ (fun a w hS hT hK => ⟨⟨hS, hT⟩, hK⟩))

/-- One of two. -/
theorem wpAnyT_two {j k : Nat} {o p : Oper} {fuel : Nat} {listed : Array Bool} {a : Act} {w : World} (ho : ops[j]? = some o) (hp : ops[k]? = some p) (hr : Region.ready md ops listed = [j, k]) (hw : Region.wanted o (yielded ops a.tmps) = true) (hv : Region.wanted p (yielded ops a.tmps) = true)
    (h : ∀ K : Act → World → Prop, Shut (∀ a w, S w → ((listed.setIfInBounds j true).getD m false = false → T w) → wpAnyT P md ops Q S T m fuel (listed.setIfInBounds j true) a w → K a w) → Oper.wp P o a w K Q)
    (g : ∀ K : Act → World → Prop, Shut (∀ a w, S w → ((listed.setIfInBounds k true).getD m false = false → T w) → wpAnyT P md ops Q S T m fuel (listed.setIfInBounds k true) a w → K a w) → Oper.wp P p a w K Q) :
    wpAnyT P md ops Q S T m (fuel + 1) listed a w := by
  refine ⟨fun h0 => (by rw [hr] at h0; cases h0), fun i hi => ?_⟩
  rw [hr] at hi
  unfold wpOp
  rcases List.mem_cons.1 hi with rfl | hi
  · simp only [ho, hw, if_true]
    exact .inl (h _ (fun a w hS hT hK => ⟨⟨hS, hT⟩, hK⟩))
  · obtain rfl := List.mem_singleton.1 hi
    simp only [hp, hv, if_true]
    exact .inl (g _ (fun a w hS hT hK => ⟨⟨hS, hT⟩, hK⟩))

theorem wpAnyT_done {listed : Array Bool} {a : Act} {w : World} (hr : Region.ready md ops listed = []) (h : Q .normal a w) : ∀ fuel, wpAnyT P md ops Q S T m fuel listed a w
  | 0 => ⟨hr, h⟩
  | _ + 1 => ⟨fun _ => h, by rw [hr]; simp⟩

theorem wp_region_T (S T : World → Prop) (m : Nat) {id : Nat} {a : Act} {w : World} (hm : P.follows .mixedOrders = true) (hS : S w.drew) (hT : T w.drew)
    (h : S w.drew → T w.drew → wpAnyT P .any ops Q S T m ops.size (Array.replicate ops.size false) a w.drew) : (Code.region id ops true).wp P Q a w :=
  wp_region_any hm (wpAny_of_T _ _ _ _ (h hS hT))

/-- A load of a whole struct. -/
theorem yields_load {o : Oper} {a : Act} (ty : TypeId) (x : Operand) (ho : o.op = .load ty x) (b off : Nat) (hx : a.eval x = .pointer (some ⟨b, off, none⟩)) (cs : List Value) (d : TypeDesc) (hw : Region.wanted o (yielded ops a.tmps) = true)
    (hc : ∀ w, S w → w.rangeAt b off cs) (hu : P.underlying ty = some d) (hd : d.isRow = true) (hi : (P.info? ty).map (·.size) = some cs.length) : YieldsIf P ops S o (.agg cs.toArray) a :=
  .inl ⟨hw, fun w hS => by
    unfold execOp
    simp only [ho, hx, Instr.loadAt, Instr.sureAddr, Sem.run_bind, Sem.run_pure, Result.andThen_ok, run_loadVar_mid w b off ty cs d (hc w hS) hu hd hi]⟩

theorem oper_store_mid {o : Oper} {a : Act} {w : World} {K : Act → World → Prop} (ty : TypeId) (x y : Operand) (ho : o.op = .store ty x y) (b off : Nat) (cells : Array Value) (hx : a.eval x = .pointer (some ⟨b, off, none⟩)) (hy : a.eval y = .agg cells)
    (ht : w.there b off cells.size) (hi : (P.info? ty).map (·.size) = some cells.size) (h1 : cells.all (·.oneCell') = true) (h : K (a.put o.dst undef) (w.setCells b off cells.toList)) : Oper.wp P o a w K Q := by
  unfold Oper.wp execOp
  simp only [ho, hx, hy, Instr.storeAt, Instr.sureAddr, Sem.run_bind, Sem.run_pure, Result.andThen_ok, run_storeVar_mid w b off ty cells ht hi h1]
  exact h

end
end Go.Proofs.YtmeomhojbobpbaaGreatDoor

/-
  Plain laws: the library's stable sort sorts, and equals keep their order.
-/
namespace Lg
open Go Go.Sort

theorem at_eq (d : Array Nat) {i j : Nat} (h : i = j) : d[i]! = d[j]! := by rw [h]

theorem swapRange_get (d : Array Nat) (a b n : Nat) (ha : a + n ≤ b) (hb : b + n ≤ d.size) : ∀ k,
    (swapRange d a b n)[k]! = if a ≤ k ∧ k < a + n then d[k + b - a]! else if b ≤ k ∧ k < b + n then d[k + a - b]! else d[k]! := by
  induction n with
  | zero => intro k; rw [swapRange, if_neg (by omega), if_neg (by omega)]
  | succ n ih =>
    intro k
    have ih := ih (by omega) (by omega)
    have e1 : (swapRange d a b n)[a + n]! = d[a + n]! := by rw [ih, if_neg (by omega), if_neg (by omega)]
    have e2 : (swapRange d a b n)[b + n]! = d[b + n]! := by rw [ih, if_neg (by omega), if_neg (by omega)]
    rw [swapRange, swp_get _ (by rw [swapRange_size]; omega) (by rw [swapRange_size]; omega), e1, e2, ih k]
    clear ih e1 e2
    (repeat' split) <;> first | exact at_eq d (by omega) | (exfalso; omega)

theorem swapRange_perm {lo hi : Nat} (d : Array Nat) (a b n : Nat) (h1 : lo ≤ a) (h2 : a + n ≤ hi) (h3 : lo ≤ b) (h4 : b + n ≤ hi) (h5 : hi ≤ d.size) : PermIn lo hi d (swapRange d a b n) := by
  induction n with
  | zero => exact permIn_refl d lo hi
  | succ n ih =>
    exact permIn_trans _ _ _ lo hi (ih (by omega) (by omega)) (swp_permIn _ lo hi (a + n) (b + n) (by omega) (by omega) (by omega) (by omega) (by rw [swapRange_size]; exact h5))

theorem rotL_get (m i j : Nat) (d : Array Nat) : i ≤ m → m + j ≤ d.size → ∀ k,
    (rotL m i j d)[k]! = if m - i ≤ k ∧ k < m - i + j then d[k + i]! else if m - i + j ≤ k ∧ k < m + j then d[k - j]! else d[k]! := by
  fun_induction rotL m i j d with
  | case1 j d =>
    intro h1 h2 k
    rw [swapRange_get d _ _ _ (by omega) (by omega)]
    (repeat' split) <;> first | exact at_eq d (by omega) | (exfalso; omega)
  | case2 i j d h0 hlt hj ih =>
    intro h1 h2 k
    have g := swapRange_get d (m - i) m j (by omega) (by omega)
    rw [ih (by omega) (by rw [swapRange_size]; omega), g, g, g]
    clear ih g
    (repeat' split) <;> first | exact at_eq d (by omega) | (exfalso; omega)
  | case3 i j d h0 hlt hj =>
    intro h1 h2 k
    (repeat' split) <;> first | exact at_eq d (by omega) | (exfalso; omega)
  | case4 i j d h0 hlt hi ih =>
    intro h1 h2 k
    have g := swapRange_get d (m - i) (m + j - i) i (by omega) (by omega)
    rw [ih (by omega) (by rw [swapRange_size]; omega), g, g, g]
    clear ih g
    (repeat' split) <;> first | exact at_eq d (by omega) | (exfalso; omega)
  | case5 i j d h0 hlt hi =>
    intro h1 h2 k
    (repeat' split) <;> first | exact at_eq d (by omega) | (exfalso; omega)

theorem rotL_perm {lo hi : Nat} (m i j : Nat) (d : Array Nat) : lo + i ≤ m → m + j ≤ hi → hi ≤ d.size → PermIn lo hi d (rotL m i j d) := by
  fun_induction rotL m i j d with
  | case1 j d => intro h1 h2 h3; exact swapRange_perm d _ _ _ (by omega) (by omega) (by omega) (by omega) h3
  | case2 i j d h0 hlt hj ih =>
    intro h1 h2 h3
    exact permIn_trans _ _ _ lo hi (swapRange_perm d _ _ _ (by omega) (by omega) (by omega) (by omega) h3) (ih (by omega) (by omega) (by rw [swapRange_size]; exact h3))
  | case3 i j d h0 hlt hj => intro h1 h2 h3; exact permIn_refl d lo hi
  | case4 i j d h0 hlt hi ih =>
    intro h1 h2 h3
    exact permIn_trans _ _ _ lo _ (swapRange_perm d _ _ _ (by omega) (by omega) (by omega) (by omega) h3) (ih (by omega) (by omega) (by rw [swapRange_size]; exact h3))
  | case5 i j d h0 hlt hi => intro h1 h2 h3; exact permIn_refl d lo _

theorem shUp_get (d : Array Nat) (a n : Nat) (h : a + n < d.size) : ∀ k,
    (shUp d a n)[k]! = if a ≤ k ∧ k < a + n then d[k + 1]! else if k = a + n then d[a]! else d[k]! := by
  induction n with
  | zero => intro k; rw [shUp]; (repeat' split) <;> first | exact at_eq d (by omega) | (exfalso; omega)
  | succ n ih =>
    intro k
    have ih := ih (by omega)
    have e1 : (shUp d a n)[a + n]! = d[a]! := by rw [ih, if_neg (by omega), if_pos rfl]
    have e2 : (shUp d a n)[a + n + 1]! = d[a + n + 1]! := by rw [ih, if_neg (by omega), if_neg (by omega)]
    rw [shUp, swp_get _ (by rw [shUp_size]; omega) (by rw [shUp_size]; omega), e1, e2, ih k]
    clear ih e1 e2
    (repeat' split) <;> first | exact at_eq d (by omega) | (exfalso; omega)

theorem shUp_perm {lo hi : Nat} (d : Array Nat) (a n : Nat) (h1 : lo ≤ a) (h2 : a + n < hi) (h3 : hi ≤ d.size) : PermIn lo hi d (shUp d a n) := by
  induction n with
  | zero => exact permIn_refl d lo hi
  | succ n ih => exact permIn_trans _ _ _ lo hi (ih (by omega)) (swp_permIn _ lo hi _ _ (by omega) (by omega) (by omega) (by omega) (by rw [shUp_size]; exact h3))

theorem shDn_get (d : Array Nat) (m n : Nat) (h : m < d.size) (hn : n ≤ m) : ∀ k,
    (shDn d m n)[k]! = if m - n < k ∧ k ≤ m then d[k - 1]! else if k = m - n then d[m]! else d[k]! := by
  induction n with
  | zero => intro k; rw [shDn]; (repeat' split) <;> first | exact at_eq d (by omega) | (exfalso; omega)
  | succ n ih =>
    intro k
    have ih := ih (by omega)
    have e1 : (shDn d m n)[m - n]! = d[m]! := by rw [ih, if_neg (by omega), if_pos rfl]
    have e2 : (shDn d m n)[m - n - 1]! = d[m - n - 1]! := by rw [ih, if_neg (by omega), if_neg (by omega)]
    rw [shDn, swp_get _ (by rw [shDn_size]; omega) (by rw [shDn_size]; omega), e1, e2, ih k]
    clear ih e1 e2
    (repeat' split) <;> first | exact at_eq d (by omega) | (exfalso; omega)

theorem shDn_perm {lo hi : Nat} (d : Array Nat) (m n : Nat) (h1 : lo + n ≤ m) (h2 : m < hi) (h3 : hi ≤ d.size) : PermIn lo hi d (shDn d m n) := by
  induction n with
  | zero => exact permIn_refl d lo hi
  | succ n ih => exact permIn_trans _ _ _ lo hi (ih (by omega)) (swp_permIn _ lo hi _ _ (by omega) (by omega) (by omega) (by omega) (by rw [shDn_size]; exact h3))

/-- A binary search for the end of what holds from the start on. -/
theorem bsc_spec (p : Nat → Bool) (i j : Nat) : i ≤ j → (∀ k k', i ≤ k → k ≤ k' → k' < j → p k' = true → p k = true) →
    (∀ k, i ≤ k → k < bsc p i j → p k = true) ∧ (∀ k, bsc p i j ≤ k → k < j → p k = false) := by
  fun_induction bsc p i j with
  | case1 i j h1 h2 ih =>
    intro hij hm
    obtain ⟨a, b⟩ := ih (by omega) (fun k k' q1 q2 q3 q4 => hm k k' (by omega) q2 q3 q4)
    refine ⟨fun k q1 q2 => ?_, b⟩
    by_cases q : k ≤ (i + j) / 2
    · exact hm k _ q1 q (by omega) h2
    · exact a k (by omega) q2
  | case2 i j h1 h2 ih =>
    intro hij hm
    obtain ⟨a, b⟩ := ih (by omega) (fun k k' q1 q2 q3 q4 => hm k k' (by omega) q2 (by omega) q4)
    refine ⟨a, fun k q1 q2 => ?_⟩
    by_cases q : k < (i + j) / 2
    · exact b k q1 q
    · cases hp : p k with
      | false => rfl
      | true => exact absurd (hm _ k (by omega) (by omega) q2 hp) h2
  | case3 i j h1 =>
    intro hij hm
    exact ⟨fun k q1 q2 => by omega, fun k q1 q2 => by omega⟩

section
variable {lt lt' : Nat → Nat → Bool}

theorem sortedL (hS : SWO lt') {a b : Nat} {d : Array Nat} (h : SortedIn lt' a b d) {i j : Nat} (h1 : a ≤ i) (h2 : i ≤ j) (h3 : j < b) : lt' d[j]! d[i]! = false := by
  by_cases e : i = j
  · subst e; exact hS.irrefl _
  · exact h i j h1 (by omega) h3

/-- The last element of the first range into the second one. -/
theorem merge_first (hS : SWO lt') {a m b : Nat} {d : Array Nat} (hm : m = a + 1) (hmb : m < b) (hb : b ≤ d.size) (hR : SortedIn lt' m b d)
    (hC : ∀ i j, a ≤ i → i < m → m ≤ j → j < b → lt d[j]! d[i]! = lt' d[j]! d[i]!) :
    PermIn a b d (shUp d a (bsc (fun h => lt d[h]! d[a]!) m b - 1 - a)) ∧ SortedIn lt' a b (shUp d a (bsc (fun h => lt d[h]! d[a]!) m b - 1 - a)) := by
  have hc : ∀ j, m ≤ j → j < b → lt d[j]! d[a]! = lt' d[j]! d[a]! := fun j h1 h2 => hC a j (Nat.le_refl _) (by omega) h1 h2
  obtain ⟨t1, t2⟩ := bsc_bd (fun h => lt d[h]! d[a]!) m b (by omega)
  obtain ⟨p1, p2⟩ := bsc_spec (fun h => lt d[h]! d[a]!) m b (by omega) (fun k k' q1 q2 q3 q4 => by
    rw [hc k' (by omega) q3] at q4
    rw [hc k q1 (by omega)]
    cases e : lt' d[k]! d[a]! with
    | true => rfl
    | false => rw [hS.ntrans _ _ _ (sortedL hS hR q1 q2 q3) e] at q4; cases q4)
  generalize bsc (fun h => lt d[h]! d[a]!) m b = t at *
  have g := shUp_get d a (t - 1 - a) (by omega)
  refine ⟨shUp_perm d a _ (Nat.le_refl _) (by omega) hb, fun i j h1 h2 h3 => ?_⟩
  rw [g, g]
  by_cases c1 : i < t - 1
  · rw [if_pos (show a ≤ i ∧ i < a + (t - 1 - a) by omega)]
    by_cases c2 : j < t - 1
    · rw [if_pos (by omega)]; exact hR _ _ (by omega) (by omega) (by omega)
    rw [if_neg (by omega)]
    by_cases c3 : j = t - 1
    · rw [if_pos (by omega)]
      have := p1 (i + 1) (by omega) (by omega)
      rw [hc _ (by omega) (by omega)] at this
      exact hS.asymmA this
    · rw [if_neg (by omega)]; exact hR _ _ (by omega) (by omega) (by omega)
  rw [if_neg (show ¬ (a ≤ i ∧ i < a + (t - 1 - a)) by omega), if_neg (show ¬ (a ≤ j ∧ j < a + (t - 1 - a)) by omega), if_neg (show ¬ j = a + (t - 1 - a) by omega)]
  by_cases c2 : i = t - 1
  · rw [if_pos (by omega)]
    have := p2 j (by omega) h3
    rw [hc _ (by omega) h3] at this
    exact this
  · rw [if_neg (by omega)]; exact hR _ _ (by omega) h2 h3

/-- The first element of the second range into the first one. -/
theorem merge_last (hS : SWO lt') {a m b : Nat} {d : Array Nat} (hm : b = m + 1) (ham : a < m) (hb : b ≤ d.size) (hL : SortedIn lt' a m d)
    (hC : ∀ i j, a ≤ i → i < m → m ≤ j → j < b → lt d[j]! d[i]! = lt' d[j]! d[i]!) :
    PermIn a b d (shDn d m (m - bsc (fun h => !lt d[m]! d[h]!) a m)) ∧ SortedIn lt' a b (shDn d m (m - bsc (fun h => !lt d[m]! d[h]!) a m)) := by
  have hc : ∀ i, a ≤ i → i < m → lt d[m]! d[i]! = lt' d[m]! d[i]! := fun i h1 h2 => hC i m h1 h2 (Nat.le_refl _) (by omega)
  obtain ⟨t1, t2⟩ := bsc_bd (fun h => !lt d[m]! d[h]!) a m (by omega)
  obtain ⟨p1, p2⟩ := bsc_spec (fun h => !lt d[m]! d[h]!) a m (by omega) (fun k k' q1 q2 q3 q4 => by
    rw [hc k' (by omega) q3, Bool.not_eq_true'] at q4
    rw [hc k q1 (by omega), Bool.not_eq_true']
    exact hS.ntrans _ _ _ q4 (sortedL hS hL q1 q2 q3))
  generalize bsc (fun h => !lt d[m]! d[h]!) a m = t at *
  have g := shDn_get d m (m - t) (by omega) (by omega)
  refine ⟨shDn_perm d m _ (by omega) (by omega) hb, fun i j h1 h2 h3 => ?_⟩
  rw [g, g]
  by_cases c1 : i < t
  · rw [if_neg (show ¬ (m - (m - t) < i ∧ i ≤ m) by omega), if_neg (show ¬ i = m - (m - t) by omega)]
    by_cases c2 : j < t
    · rw [if_neg (by omega), if_neg (by omega)]; exact hL _ _ h1 h2 (by omega)
    by_cases c3 : j = t
    · rw [if_neg (by omega), if_pos (by omega)]
      have := p1 i h1 c1
      rw [hc _ h1 (by omega), Bool.not_eq_true'] at this
      exact this
    · rw [if_pos (by omega)]; exact hL _ _ h1 (by omega) (by omega)
  rw [if_pos (show m - (m - t) < j ∧ j ≤ m by omega)]
  by_cases c2 : i = t
  · rw [if_neg (by omega), if_pos (by omega)]
    have := p2 (j - 1) (by omega) (by omega)
    rw [hc _ (by omega) (by omega), Bool.not_eq_false'] at this
    exact hS.asymmA this
  · rw [if_pos (by omega)]; exact hL _ _ (by omega) (by omega) (by omega)

/-- The merge of two neighbouring ranges. -/
theorem symM_spec (hS : SWO lt') : ∀ (f a m b : Nat) (d : Array Nat), b - a ≤ f → a < m → m < b → b ≤ d.size → SortedIn lt' a m d → SortedIn lt' m b d →
    (∀ i j, a ≤ i → i < m → m ≤ j → j < b → lt d[j]! d[i]! = lt' d[j]! d[i]!) →
    PermIn a b d (symM lt f a m b d) ∧ SortedIn lt' a b (symM lt f a m b d) := by
  intro f
  induction f with
  | zero => intro a m b d hf; omega
  | succ f ih =>
    intro a m b d hf ham hmb hb hL hR hC
    rw [symM]
    by_cases q1 : m - a = 1
    · rw [if_pos q1]; exact merge_first hS (by omega) hmb hb hR hC
    rw [if_neg q1]
    by_cases q2 : b - m = 1
    · rw [if_pos q2]; exact merge_last hS (by omega) ham hb hL hC
    rw [if_neg q2]
    dsimp only
    obtain ⟨mid, hmid⟩ : ∃ mid, mid = (a + b) / 2 := ⟨_, rfl⟩
    rw [← hmid]
    have hst : symStart lt a m b d = bsc (fun c => !lt d[mid + m - 1 - c]! d[c]!) (if mid < m then mid + m - b else a) (if mid < m then mid else m) := by unfold symStart; rw [← hmid]
    rw [hst]
    have hlo : a ≤ (if mid < m then mid + m - b else a) ∧ (if mid < m then mid + m - b else a) ≤ (if mid < m then mid else m) := by split <;> omega
    have hhi : (if mid < m then mid else m) ≤ m ∧ (if mid < m then mid else m) ≤ mid := by split <;> omega
    have hrng : ∀ c, (if mid < m then mid + m - b else a) ≤ c → c < (if mid < m then mid else m) → m ≤ mid + m - 1 - c ∧ mid + m - 1 - c < b := by intro c; split <;> omega
    have hend : (mid < m → ((if mid < m then mid + m - b else a) = mid + m - b ∧ (if mid < m then mid else m) = mid)) ∧ (¬ mid < m → ((if mid < m then mid + m - b else a) = a ∧ (if mid < m then mid else m) = m)) := by
      refine ⟨fun h => ?_, fun h => ?_⟩
      · rw [if_pos h, if_pos h]; exact ⟨rfl, rfl⟩
      · rw [if_neg h, if_neg h]; exact ⟨rfl, rfl⟩
    generalize (if mid < m then mid + m - b else a) = lo at *
    generalize (if mid < m then mid else m) = hi at *
    have hc : ∀ c, lo ≤ c → c < hi → lt d[mid + m - 1 - c]! d[c]! = lt' d[mid + m - 1 - c]! d[c]! := fun c h1 h2 => hC c _ (by omega) (by omega) (hrng c h1 h2).1 (hrng c h1 h2).2
    obtain ⟨s1, s2⟩ := bsc_bd (fun c => !lt d[mid + m - 1 - c]! d[c]!) lo hi hlo.2
    obtain ⟨p1, p2⟩ := bsc_spec (fun c => !lt d[mid + m - 1 - c]! d[c]!) lo hi hlo.2 (fun k k' k1 k2 k3 k4 => by
      rw [hc k' (by omega) k3, Bool.not_eq_true'] at k4
      rw [hc k k1 (by omega), Bool.not_eq_true']
      exact hS.ntrans _ _ _ (hS.ntrans _ _ _ (sortedL hS hR (hrng k' (by omega) k3).1 (by omega) (hrng k k1 (by omega)).2) k4) (sortedL hS hL (by omega) k2 (by omega)))
    have pA : ∀ c, lo ≤ c → c < bsc (fun c => !lt d[mid + m - 1 - c]! d[c]!) lo hi → lt' d[mid + m - 1 - c]! d[c]! = false := fun c h1 h2 => by
      have := p1 c h1 h2
      rw [hc c h1 (by omega), Bool.not_eq_true'] at this
      exact this
    have pB : ∀ c, bsc (fun c => !lt d[mid + m - 1 - c]! d[c]!) lo hi ≤ c → c < hi → lt' d[mid + m - 1 - c]! d[c]! = true := fun c h1 h2 => by
      have := p2 c h1 h2
      rw [hc c (by omega) h2, Bool.not_eq_false'] at this
      exact this
    clear p1 p2 hst
    generalize bsc (fun c => !lt d[mid + m - 1 - c]! d[c]!) lo hi = s at *
    obtain ⟨e, he⟩ : ∃ e, e = mid + m - s := ⟨_, rfl⟩
    rw [← he]
    have heb : m ≤ e ∧ e ≤ b := by
      by_cases hq : mid < m
      · have := hend.1 hq; omega
      · have := hend.2 hq; omega
    obtain ⟨d1, hd1⟩ : ∃ d1, d1 = if s < m ∧ m < e then rotate d s m e else d := ⟨_, rfl⟩
    rw [← hd1]
    have g1 : ∀ k, d1[k]! = if s ≤ k ∧ k < mid then d[k + m - s]! else if mid ≤ k ∧ k < e then d[k + s - mid]! else d[k]! := by
      intro k
      rw [hd1]
      by_cases hq : s < m ∧ m < e
      · rw [if_pos hq]
        unfold rotate
        rw [rotL_get m (m - s) (e - m) d (by omega) (by omega)]
        clear hd1
        (repeat' split) <;> first | exact at_eq d (by omega) | (exfalso; omega)
      · rw [if_neg hq]
        clear hd1
        (repeat' split) <;> first | exact at_eq d (by omega) | (exfalso; omega)
    have P1 : PermIn a b d d1 := by
      rw [hd1]
      by_cases hq : s < m ∧ m < e
      · rw [if_pos hq]; exact rotL_perm m (m - s) (e - m) d (by omega) (by omega) hb
      · rw [if_neg hq]; exact permIn_refl d a b
    have z1 : d1.size = d.size := P1.1
    -- what lies where
    have w1 : ∀ k, a ≤ k → k < s → d1[k]! = d[k]! := fun k h1 h2 => by rw [g1, if_neg (by omega), if_neg (by omega)]
    have w2 : ∀ k, s ≤ k → k < mid → d1[k]! = d[k + m - s]! := fun k h1 h2 => by rw [g1, if_pos ⟨h1, h2⟩]
    have w3 : ∀ k, mid ≤ k → k < e → d1[k]! = d[k + s - mid]! := fun k h1 h2 => by rw [g1, if_neg (by omega), if_pos ⟨h1, h2⟩]
    have w4 : ∀ k, e ≤ k → k < b → d1[k]! = d[k]! := fun k h1 h2 => by rw [g1, if_neg (by omega), if_neg (by omega)]
    have X : ∀ i j, a ≤ i → i < mid → mid ≤ j → j < b → lt' d1[j]! d1[i]! = false := by
      intro i j i1 i2 j1 j2
      by_cases ci : i < s
      · rw [w1 i i1 ci]
        by_cases cj : j < e
        · rw [w3 j j1 cj]; exact hL _ _ i1 (by omega) (by omega)
        · rw [w4 j (by omega) j2]
          by_cases hq : lo ≤ s - 1
          · have h := pA (s - 1) hq (by omega)
            rw [show mid + m - 1 - (s - 1) = e by omega] at h
            exact hS.ntrans _ _ _ (hS.ntrans _ _ _ (sortedL hS hR (by omega) (by omega) j2) h) (sortedL hS hL i1 (by omega) (by omega))
          · exfalso
            by_cases hq2 : mid < m
            · have := hend.1 hq2; omega
            · have := hend.2 hq2; omega
      · rw [w2 i (by omega) i2]
        by_cases cj : j < e
        · rw [w3 j j1 cj]
          by_cases hq : s < hi
          · have h := hS.asymmA (pB s (Nat.le_refl _) hq)
            rw [show mid + m - 1 - s = e - 1 by omega] at h
            exact hS.ntrans _ _ _ (hS.ntrans _ _ _ (sortedL hS hL (by omega) (by omega) (by omega)) h) (sortedL hS hR (by omega) (by omega) (by omega))
          · exfalso
            by_cases hq2 : mid < m
            · have := hend.1 hq2; omega
            · have := hend.2 hq2; omega
        · rw [w4 j (by omega) j2]; exact hR _ _ (by omega) (by omega) j2
    have S1 : SortedIn lt' a s d1 := fun i j h1 h2 h3 => by rw [w1 i h1 (by omega), w1 j (by omega) h3]; exact hL _ _ h1 h2 (by omega)
    have S2 : SortedIn lt' s mid d1 := fun i j h1 h2 h3 => by rw [w2 i h1 (by omega), w2 j (by omega) h3]; exact hR _ _ (by omega) (by omega) (by omega)
    have S3 : SortedIn lt' mid e d1 := fun i j h1 h2 h3 => by rw [w3 i h1 (by omega), w3 j (by omega) h3]; exact hL _ _ (by omega) (by omega) (by omega)
    have S4 : SortedIn lt' e b d1 := fun i j h1 h2 h3 => by rw [w4 i h1 (by omega), w4 j (by omega) h3]; exact hR _ _ (by omega) h2 h3
    have C1 : ∀ i j, a ≤ i → i < s → s ≤ j → j < mid → lt d1[j]! d1[i]! = lt' d1[j]! d1[i]! := fun i j h1 h2 h3 h4 => by
      rw [w1 i h1 h2, w2 j h3 h4]; exact hC _ _ h1 (by omega) (by omega) (by omega)
    have C2 : ∀ i j, mid ≤ i → i < e → e ≤ j → j < b → lt d1[j]! d1[i]! = lt' d1[j]! d1[i]! := fun i j h1 h2 h3 h4 => by
      rw [w3 i h1 h2, w4 j h3 h4]; exact hC _ _ (by omega) (by omega) (by omega) h4
    have hsm : a ≤ s ∧ s ≤ mid ∧ mid ≤ e := by omega
    clear w1 w2 w3 w4 g1 pA pB hC hL hR hd1 hrng hc
    obtain ⟨d2, hd2⟩ : ∃ d2, d2 = if a < s ∧ s < mid then symM lt f a s mid d1 else d1 := ⟨_, rfl⟩
    rw [← hd2]
    obtain ⟨P2, T2⟩ : PermIn a mid d1 d2 ∧ SortedIn lt' a mid d2 := by
      rw [hd2]
      by_cases hq : a < s ∧ s < mid
      · rw [if_pos hq]; exact ih a s mid d1 (by omega) hq.1 hq.2 (by omega) S1 S2 C1
      · rw [if_neg hq]
        refine ⟨permIn_refl d1 a mid, ?_⟩
        by_cases hq2 : s = a
        · subst hq2; exact S2
        · obtain rfl : s = mid := by omega
          exact S1
    have z2 : d2.size = d1.size := P2.1
    have v2 : ∀ k, mid ≤ k → d2[k]! = d1[k]! := fun k h => P2.2.1 k (.inr h)
    obtain ⟨d3, hd3⟩ : ∃ d3, d3 = if mid < e ∧ e < b then symM lt f mid e b d2 else d2 := ⟨_, rfl⟩
    rw [← hd3]
    have S3' : SortedIn lt' mid e d2 := fun i j h1 h2 h3 => by rw [v2 i h1, v2 j (by omega)]; exact S3 _ _ h1 h2 h3
    have S4' : SortedIn lt' e b d2 := fun i j h1 h2 h3 => by rw [v2 i (by omega), v2 j (by omega)]; exact S4 _ _ h1 h2 h3
    obtain ⟨P3, T3⟩ : PermIn mid b d2 d3 ∧ SortedIn lt' mid b d3 := by
      rw [hd3]
      by_cases hq : mid < e ∧ e < b
      · rw [if_pos hq]
        exact ih mid e b d2 (by omega) hq.1 hq.2 (by omega) S3' S4' (fun i j h1 h2 h3 h4 => by rw [v2 i h1, v2 j (by omega)]; exact C2 _ _ h1 h2 h3 h4)
      · rw [if_neg hq]
        refine ⟨permIn_refl d2 mid b, ?_⟩
        by_cases hq2 : e = mid
        · subst hq2; exact S4'
        · obtain rfl : e = b := by omega
          exact S3'
    have v3 : ∀ k, k < mid → d3[k]! = d2[k]! := fun k h => P3.2.1 k (.inl h)
    refine ⟨permIn_trans _ _ _ a b (permIn_trans _ _ _ a b P1 (permIn_mono d1 d2 a mid a b (Nat.le_refl _) (by omega) (by omega) P2)) (permIn_mono d2 d3 mid b a b (by omega) (Nat.le_refl _) (by omega) P3), fun i j h1 h2 h3 => ?_⟩
    by_cases ci : mid ≤ i
    · exact T3 i j ci h2 h3
    by_cases cj : j < mid
    · rw [v3 i (by omega), v3 j cj]; exact T2 i j h1 h2 cj
    rw [v3 i (by omega)]
    refine permIn_all d1 d2 a mid (fun x => lt' d3[j]! x = false) (by omega) P2 (fun i' i1 i2 => ?_) i h1 (by omega)
    exact permIn_all d2 d3 mid b (fun y => lt' y d1[i']! = false) (by omega) P3 (fun j' j1 j2 => by rw [v2 j' j1]; exact X i' j' i1 i2 j1 j2) j (by omega) h3
end
end Lg

/-
  Plain laws: the library's stable sort, whole.
-/
namespace Lg
open Go Go.Sort

/-- An order with ties broken by number. -/
def tieLt (lt : Nat → Nat → Bool) (x y : Nat) : Bool := lt x y || (!lt y x && decide (x < y))

theorem tieLt_later (lt : Nat → Nat → Bool) {x y : Nat} (h : y < x) : lt x y = tieLt lt x y := by
  unfold tieLt
  rw [decide_eq_false (by omega), Bool.and_false, Bool.or_false]

theorem tieLt_swo {lt : Nat → Nat → Bool} (hS : SWO lt) : SWO (tieLt lt) where
  irrefl x := by unfold tieLt; rw [hS.irrefl]; simp
  trans x y z h1 h2 := by
    unfold tieLt at *
    simp only [Bool.or_eq_true, Bool.and_eq_true, Bool.not_eq_true', decide_eq_true_eq] at *
    rcases h1 with h1 | ⟨h1, h3⟩
    · rcases h2 with h2 | ⟨h2, _⟩
      · exact .inl (hS.trans _ _ _ h1 h2)
      · left
        cases e : lt x z with
        | true => rfl
        | false => rw [hS.ntrans _ _ _ e h2] at h1; cases h1
    · rcases h2 with h2 | ⟨h2, h4⟩
      · left
        cases e : lt x z with
        | true => rfl
        | false => rw [hS.ntrans _ _ _ h1 e] at h2; cases h2
      · exact .inr ⟨hS.ntrans _ _ _ h2 h1, by omega⟩
  ntrans x y z h1 h2 := by
    unfold tieLt at *
    simp only [Bool.or_eq_false_iff, Bool.and_eq_false_iff, Bool.not_eq_false', decide_eq_false_iff_not] at *
    obtain ⟨a1, b1⟩ := h1
    obtain ⟨a2, b2⟩ := h2
    refine ⟨hS.ntrans _ _ _ a1 a2, ?_⟩
    rcases b1 with b1 | b1
    · left
      cases e : lt z x with
      | true => rfl
      | false => rw [hS.ntrans _ _ _ a2 e] at b1; cases b1
    · rcases b2 with b2 | b2
      · left
        cases e : lt z x with
        | true => rfl
        | false => rw [hS.ntrans _ _ _ e a1] at b2; cases b2
      · exact .inr (by omega)

section
variable {lt lt' : Nat → Nat → Bool}

theorem insInner_same {a : Nat} (hC : ∀ x y, y < x → lt x y = lt' x y) : ∀ (j : Nat) (d : Array Nat) (x : Nat), (∀ k, a ≤ k → k < j → d[k]! < x) → d[j]! = x → j < d.size → insInner lt a j d = insInner lt' a j d
  | 0, d, x, _, _, _ => by unfold insInner; rfl
  | j + 1, d, x, h1, h2, h3 => by
    unfold insInner
    by_cases q : j + 1 > a
    · have e : lt d[j + 1]! d[j]! = lt' d[j + 1]! d[j]! := hC _ _ (by rw [h2]; exact h1 j (by omega) (by omega))
      rw [e]
      split
      · refine insInner_same hC j (swp d (j + 1) j) x (fun k k1 k2 => ?_) ?_ (by rw [swp_size]; omega)
        · rw [swp_get d h3 (by omega), if_neg (by omega), if_neg (by omega)]; exact h1 k k1 (by omega)
        · rw [swp_get d h3 (by omega), if_pos rfl]; exact h2
      · rfl
    · rw [decide_eq_false q]; rfl

theorem insOuter_same (hC : ∀ x y, y < x → lt x y = lt' x y) (hS : SWO lt') (a b : Nat) : ∀ (n i : Nat) (d : Array Nat), b - i = n → a < i → i ≤ b → b ≤ d.size → SortedIn lt' a i d →
    (∀ k, i ≤ k → k < b → d[k]! = k) → (∀ k, a ≤ k → k < i → d[k]! < i) → insOuter lt a b i d = insOuter lt' a b i d
  | 0, i, d, hn, _, hib, _, _, _, _ => by
    obtain rfl : i = b := by omega
    rw [insOuter, if_neg (by omega), insOuter, if_neg (by omega)]
  | n + 1, i, d, hn, hai, hib, hb, hs, h1, h2 => by
    have hlt : i < b := by omega
    rw [insOuter, if_pos hlt]
    conv => rhs; rw [insOuter, if_pos hlt]
    have e : insInner lt a i d = insInner lt' a i d := insInner_same hC i d i (fun k k1 k2 => h2 k k1 k2) (h1 i (Nat.le_refl _) hlt) (by omega)
    rw [e]
    have hp := insInner_spec hS swp_permIn permIn_refl permIn_trans a (i + 1) i (by omega) i d (by omega) (Nat.le_refl _) (by omega) ⟨fun p q hap hpq hqi _ hq => hs p q hap hpq (by omega), fun q h1 h2 => by omega⟩
    refine insOuter_same hC hS a b n (i + 1) _ (by omega) (by omega) (by omega) (by rw [hp.1.1]; exact hb) hp.2 (fun k k1 k2 => ?_) (fun k k1 k2 => ?_)
    · rw [hp.1.2.1 k (.inr (by omega))]; exact h1 k (by omega) k2
    · refine permIn_all d _ a (i + 1) (fun v => v < i + 1) (by omega) hp.1 (fun k' k3 k4 => ?_) k k1 k2
      by_cases q : k' = i
      · rw [q, h1 i (Nat.le_refl _) hlt]; omega
      · have := h2 k' k3 (by omega); omega

theorem insertionSort_same (hC : ∀ x y, y < x → lt x y = lt' x y) (hS : SWO lt') (d : Array Nat) (a b : Nat) (hb : b ≤ d.size) (h : ∀ k, a ≤ k → k < b → d[k]! = k) : insertionSort lt d a b = insertionSort lt' d a b := by
  unfold insertionSort
  by_cases q : a < b
  · refine insOuter_same hC hS a b (b - (a + 1)) (a + 1) d rfl (by omega) (by omega) hb (fun i j h1 h2 h3 => by omega) (fun k k1 k2 => h k (by omega) k2) (fun k k1 k2 => ?_)
    rw [h k k1 (by omega)]; omega
  · rw [insOuter, if_neg (by omega), insOuter, if_neg (by omega)]

/-- Blocks of a size: each sorted, each with its own numbers. -/
structure Blocks (lt' : Nat → Nat → Bool) (bs n : Nat) (lo hi : Nat) (d : Array Nat) : Prop where
  ord : ∀ i j, lo ≤ i → i < j → j < hi → j < n → i / bs = j / bs → lt' d[j]! d[i]! = false
  loc : ∀ i, lo ≤ i → i < hi → i < n → d[i]! / bs = i / bs

theorem div_block {bs a k i : Nat} (hb : 0 < bs) (ha : a = k * bs) : i / bs = k ↔ a ≤ i ∧ i < a + bs := by
  subst ha
  rw [Nat.div_eq_iff hb]
  omega

theorem stA_spec (hC : ∀ x y, y < x → lt x y = lt' x y) (hS : SWO lt') (n : Nat) : ∀ (f a : Nat) (d : Array Nat), n - a ≤ f → a ≤ n → (∃ q, a = q * 20) → d.size = n → (∀ k, a ≤ k → k < n → d[k]! = k) → Blocks lt' 20 n 0 a d →
    PermIn 0 n d (stA lt n f a d) ∧ Blocks lt' 20 n 0 n (stA lt n f a d) := by
  have last : ∀ (a : Nat) (d : Array Nat), a ≤ n → n ≤ a + 20 → (∃ q, a = q * 20) → d.size = n → (∀ k, a ≤ k → k < n → d[k]! = k) → Blocks lt' 20 n 0 a d →
      PermIn 0 n d (insertionSort lt d a n) ∧ Blocks lt' 20 n 0 n (insertionSort lt d a n) := by
    intro a d han hn20 ⟨q, hq⟩ hd hid hB
    rw [insertionSort_same hC hS d a n (by omega) hid]
    obtain ⟨p1, p2⟩ := insertionSort_holds hS d a n han (by omega)
    refine ⟨permIn_mono _ _ a n 0 n (by omega) (Nat.le_refl _) (by omega) p1, ⟨fun i j h1 h2 h3 h4 h5 => ?_, fun i h1 h2 h3 => ?_⟩⟩
    · by_cases c : j < a
      · rw [p1.2.1 i (.inl (by omega)), p1.2.1 j (.inl c)]; exact hB.ord i j h1 h2 c h4 h5
      · have hjq : j / 20 = q := (div_block (by omega) hq).2 ⟨by omega, by omega⟩
        have hiq := (div_block (by omega) hq).1 (h5.trans hjq)
        exact p2 i j hiq.1 h2 h3
    · by_cases c : i < a
      · rw [p1.2.1 i (.inl c)]; exact hB.loc i h1 c h3
      · have hjq : i / 20 = q := (div_block (by omega) hq).2 ⟨by omega, by omega⟩
        rw [hjq]
        exact permIn_all d _ a n (fun v => v / 20 = q) (by omega) p1 (fun k k1 k2 => by rw [hid k k1 k2]; exact (div_block (by omega) hq).2 ⟨k1, by omega⟩) i (by omega) h3
  intro f
  induction f with
  | zero =>
    intro a d hf han hq hd hid hB
    rw [stA]
    exact last a d han (by omega) hq hd hid hB
  | succ f ih =>
    intro a d hf han ⟨q, hq⟩ hd hid hB
    rw [stA]
    by_cases c : a + 20 ≤ n
    · rw [if_pos c]
      rw [insertionSort_same hC hS d a (a + 20) (by omega) (fun k k1 k2 => hid k k1 (by omega))]
      obtain ⟨p1, p2⟩ := insertionSort_holds hS d a (a + 20) (by omega) (by omega)
      have hB2 : Blocks lt' 20 n 0 (a + 20) (insertionSort lt' d a (a + 20)) := by
        refine ⟨fun i j h1 h2 h3 h4 h5 => ?_, fun i h1 h2 h3 => ?_⟩
        · by_cases c : j < a
          · rw [p1.2.1 i (.inl (by omega)), p1.2.1 j (.inl c)]; exact hB.ord i j h1 h2 c h4 h5
          · have hjq : j / 20 = q := (div_block (by omega) hq).2 ⟨by omega, by omega⟩
            have hiq := (div_block (by omega) hq).1 (h5.trans hjq)
            exact p2 i j hiq.1 h2 h3
        · by_cases c : i < a
          · rw [p1.2.1 i (.inl c)]; exact hB.loc i h1 c h3
          · have hjq : i / 20 = q := (div_block (by omega) hq).2 ⟨by omega, by omega⟩
            rw [hjq]
            exact permIn_all d _ a (a + 20) (fun v => v / 20 = q) (by omega) p1 (fun k k1 k2 => by rw [hid k k1 (by omega)]; exact (div_block (by omega) hq).2 ⟨k1, by omega⟩) i (by omega) h2
      obtain ⟨r1, r2⟩ := ih (a + 20) _ (by omega) c ⟨q + 1, by omega⟩ (by rw [p1.1]; exact hd) (fun k k1 k2 => by rw [p1.2.1 k (.inr k1)]; exact hid k (by omega) k2) hB2
      exact ⟨permIn_trans _ _ _ 0 n (permIn_mono _ _ a (a + 20) 0 n (by omega) c (by omega) p1) r1, r2⟩
    · rw [if_neg c]
      exact last a d han (by omega) ⟨q, hq⟩ hd hid hB

theorem div_twice {bs i j : Nat} (h : i / bs = j / bs) : i / (2 * bs) = j / (2 * bs) := by
  rw [Nat.mul_comm, ← Nat.div_div_eq_div_mul, ← Nat.div_div_eq_div_mul, h]

/-- One pass of merges, from a on. -/
theorem stMg_spec (hC : ∀ x y, y < x → lt x y = lt' x y) (hS : SWO lt') (n bs : Nat) (hbs : 0 < bs) : ∀ (f a : Nat) (d : Array Nat), n - a ≤ f → (∃ q, a = q * (2 * bs)) → d.size = n → Blocks lt' (2 * bs) n 0 a d → Blocks lt' bs n a n d →
    PermIn 0 n d (stMg lt n bs f a d) ∧ Blocks lt' (2 * bs) n 0 n (stMg lt n bs f a d) := by
  -- a merge of two blocks
  have one : ∀ (a b : Nat) (d : Array Nat), (∃ q, a = q * (2 * bs)) → a + bs < b → b ≤ a + 2 * bs → b ≤ n → d.size = n → Blocks lt' (2 * bs) n 0 a d → Blocks lt' bs n a n d →
      PermIn a b d (symM lt n a (a + bs) b d) ∧ Blocks lt' (2 * bs) n 0 b (symM lt n a (a + bs) b d) := by
    intro a b d ⟨q, hq⟩ h1 h2 h3 hd hA hB
    have hq0 : a = (2 * q) * bs := by rw [hq]; rw [Nat.mul_comm 2 q, Nat.mul_assoc]
    have hq1 : a + bs = (2 * q + 1) * bs := by rw [hq0, Nat.add_mul, Nat.one_mul]
    have hd0 : ∀ i, a ≤ i → i < a + bs → i / bs = 2 * q := fun i i1 i2 => (div_block hbs hq0).2 ⟨i1, i2⟩
    have hd1 : ∀ i, a + bs ≤ i → i < b → i / bs = 2 * q + 1 := fun i i1 i2 => (div_block hbs hq1).2 ⟨i1, by omega⟩
    have hdd : ∀ i, a ≤ i → i < b → i / (2 * bs) = q := fun i i1 i2 => (div_block (by omega) hq).2 ⟨i1, by omega⟩
    obtain ⟨p1, p2⟩ := symM_spec (lt := lt) hS n a (a + bs) b d (by omega) (by omega) h1 (by omega)
      (fun i j i1 i2 i3 => hB.ord i j i1 i2 (by omega) (by omega) (by rw [hd0 i i1 (by omega), hd0 j (by omega) i3]))
      (fun i j i1 i2 i3 => hB.ord i j (by omega) i2 (by omega) (by omega) (by rw [hd1 i i1 (by omega), hd1 j (by omega) i3]))
      (fun i j i1 i2 i3 i4 => hC _ _ (by
        have e1 := hB.loc i i1 (by omega) (by omega)
        have e2 := hB.loc j (by omega) (by omega) (by omega)
        rw [hd0 i i1 i2] at e1
        rw [hd1 j i3 i4] at e2
        rcases Nat.lt_or_ge d[i]! d[j]! with h | h
        · exact h
        · have := Nat.div_le_div_right (c := bs) h
          omega))
    refine ⟨p1, ⟨fun i j i1 i2 i3 i4 i5 => ?_, fun i i1 i2 i3 => ?_⟩⟩
    · by_cases c : j < a
      · rw [p1.2.1 i (.inl (by omega)), p1.2.1 j (.inl c)]; exact hA.ord i j i1 i2 c i4 i5
      · have hiq := (div_block (by omega) hq).1 (i5.trans (hdd j (by omega) i3))
        exact p2 i j hiq.1 i2 i3
    · by_cases c : i < a
      · rw [p1.2.1 i (.inl c)]; exact hA.loc i i1 c i3
      · rw [hdd i (by omega) i2]
        refine permIn_all d _ a b (fun v => v / (2 * bs) = q) (by omega) p1 (fun k k1 k2 => ?_) i (by omega) i2
        rw [div_twice (hB.loc k k1 (by omega) (by omega))]
        exact hdd k k1 k2
  intro f
  induction f with
  | zero =>
    intro a d hf hq hd hA hB
    rw [stMg]
    exact ⟨permIn_refl d 0 n, ⟨fun i j h1 h2 h3 h4 h5 => hA.ord i j h1 h2 (by omega) h4 h5, fun i h1 h2 h3 => hA.loc i h1 (by omega) h3⟩⟩
  | succ f ih =>
    intro a d hf ⟨q, hq⟩ hd hA hB
    rw [stMg]
    by_cases c : a + 2 * bs ≤ n
    · rw [if_pos c]
      obtain ⟨p1, p2⟩ := one a (a + 2 * bs) d ⟨q, hq⟩ (by omega) (Nat.le_refl _) c hd hA hB
      obtain ⟨r1, r2⟩ := ih (a + 2 * bs) _ (by omega) ⟨q + 1, by rw [Nat.add_mul, Nat.one_mul, ← hq]⟩ (by rw [p1.1]; exact hd) p2
        ⟨fun i j h1 h2 h3 h4 h5 => by rw [p1.2.1 i (.inr h1), p1.2.1 j (.inr (by omega))]; exact hB.ord i j (by omega) h2 h3 h4 h5, fun i h1 h2 h3 => by rw [p1.2.1 i (.inr h1)]; exact hB.loc i (by omega) h2 h3⟩
      exact ⟨permIn_trans _ _ _ 0 n (permIn_mono _ _ a (a + 2 * bs) 0 n (by omega) c (by omega) p1) r1, r2⟩
    · rw [if_neg c]
      by_cases c2 : a + bs < n
      · rw [if_pos c2]
        obtain ⟨p1, p2⟩ := one a n d ⟨q, hq⟩ c2 (by omega) (Nat.le_refl _) hd hA hB
        exact ⟨permIn_mono _ _ a n 0 n (by omega) (Nat.le_refl _) (by omega) p1, p2⟩
      · rw [if_neg c2]
        have hq0 : a = (2 * q) * bs := by rw [hq]; rw [Nat.mul_comm 2 q, Nat.mul_assoc]
        have hd0 : ∀ i, a ≤ i → i < n → i / bs = 2 * q := fun i i1 i2 => (div_block hbs hq0).2 ⟨i1, by omega⟩
        refine ⟨permIn_refl d 0 n, ⟨fun i j h1 h2 h3 h4 h5 => ?_, fun i h1 h2 h3 => ?_⟩⟩
        · by_cases c3 : j < a
          · exact hA.ord i j h1 h2 c3 h4 h5
          · have hj : j / (2 * bs) = q := (div_block (by omega) hq).2 ⟨by omega, by omega⟩
            have hi := (div_block (by omega) hq).1 (h5.trans hj)
            exact hB.ord i j hi.1 h2 h3 h4 (by rw [hd0 i hi.1 (by omega), hd0 j (by omega) h4])
        · by_cases c3 : i < a
          · exact hA.loc i h1 c3 h3
          · exact div_twice (hB.loc i (by omega) h2 h3)

theorem stO_spec (hC : ∀ x y, y < x → lt x y = lt' x y) (hS : SWO lt') (n : Nat) : ∀ (f bs : Nat) (d : Array Nat), 0 < bs → n ≤ bs * 2 ^ f → d.size = n → Blocks lt' bs n 0 n d →
    PermIn 0 n d (stO lt n f bs d) ∧ SortedIn lt' 0 n (stO lt n f bs d) := by
  intro f
  induction f with
  | zero =>
    intro bs d hbs hn hd hB
    rw [Nat.pow_zero, Nat.mul_one] at hn
    rw [stO]
    exact ⟨permIn_refl d 0 n, fun i j h1 h2 h3 => hB.ord i j h1 h2 h3 h3 (by rw [Nat.div_eq_of_lt (by omega), Nat.div_eq_of_lt (by omega)])⟩
  | succ f ih =>
    intro bs d hbs hn hd hB
    rw [stO]
    by_cases c : bs < n
    · rw [if_pos c]
      obtain ⟨p1, p2⟩ := stMg_spec hC hS n bs hbs n 0 d (by omega) ⟨0, by omega⟩ hd ⟨fun i j h1 h2 h3 => by omega, fun i h1 h2 => by omega⟩ hB
      obtain ⟨r1, r2⟩ := ih (2 * bs) _ (by omega) (by rw [Nat.pow_succ] at hn; rw [Nat.mul_comm 2 bs, Nat.mul_assoc, Nat.mul_comm 2 (2 ^ f)]; exact hn) (by rw [p1.1]; exact hd) p2
      exact ⟨permIn_trans _ _ _ 0 n p1 r1, r2⟩
    · rw [if_neg c]
      exact ⟨permIn_refl d 0 n, fun i j h1 h2 h3 => hB.ord i j h1 h2 h3 h3 (by rw [Nat.div_eq_of_lt (by omega), Nat.div_eq_of_lt (by omega)])⟩
end

theorem extract_all (d : Array Nat) (n : Nat) (h : d.size = n) : d.extract 0 n = d := by
  subst h; simp

theorem range_get {n k : Nat} (h : k < n) : (List.range n).toArray[k]! = k := by
  simp [h]

/-- The library's stable sort of the numbers below n: they are there each once, ascending, equals by number. -/
theorem stableS_spec {lt : Nat → Nat → Bool} (hS : SWO lt) (n : Nat) :
    (stableS lt (List.range n).toArray).toList.Perm (List.range n) ∧ SortedIn (tieLt lt) 0 n (stableS lt (List.range n).toArray) := by
  have hz : (List.range n).toArray.size = n := by simp
  have hC : ∀ x y, y < x → lt x y = tieLt lt x y := fun x y h => tieLt_later lt h
  have hS' := tieLt_swo hS
  unfold stableS
  rw [hz]
  obtain ⟨p1, p2⟩ := stA_spec hC hS' n n 0 (List.range n).toArray (by omega) (Nat.zero_le _) ⟨0, rfl⟩ hz (fun k _ h => range_get h) ⟨fun i j h1 h2 h3 => by omega, fun i h1 h2 => by omega⟩
  obtain ⟨r1, r2⟩ := stO_spec hC hS' n n 20 _ (by omega) (by have := Nat.lt_two_pow_self (n := n); omega) (by rw [p1.1]; exact hz) p2
  refine ⟨?_, r2⟩
  have h := (permIn_trans _ _ _ 0 n p1 r1).2.2
  have z1 := r1.1
  have z2 := p1.1
  rw [hz] at z2
  rw [z2] at z1
  rw [extract_all _ n z1, extract_all _ n hz] at h
  simpa using h

end Lg

/-
  Plain laws: the reference gives what is left of a split to the greatest cuts one by one; that is the stable order.
-/
namespace Lg
open Go Go.Sort

/-! ### Fractions, as the reference has them -/
theorem normN_gcd {num den : Int} (h : 0 < den) : Int.gcd (normN num den).num (normN num den).den = 1 := by
  have hg := gcd_pos_of_den (num := num) (den := den) (by omega)
  have hD : normD num den = (Int.gcd num den : Int) := by unfold normD; rw [if_neg (by omega)]
  unfold normN
  rw [hD]
  dsimp only
  rw [Int.tdiv_eq_ediv_of_dvd (Int.gcd_dvd_left num den), Int.tdiv_eq_ediv_of_dvd (Int.gcd_dvd_right num den)]
  exact Int.gcd_ediv_gcd_ediv_gcd hg

theorem validF_normN {num den : Int} (h : 0 < den) : validF (normN num den) = normOk num den := by
  have h1 := (normN_val num den h).2
  unfold validF normOk
  rw [decide_eq_true (normN_gcd h), Bool.and_true, Bool.eq_iff_iff]
  simp only [Bool.and_eq_true, inn_iff, decide_eq_true_eq]
  omega

def lowF (num den : Int) : Frac × Int := if normOk num den = true then (normN num den, 0) else (⟨0, 0⟩, 2)
def addF (a b : Frac) : Frac × Int := if (validF a && validF b) = true then lowF (a.num * b.den + b.num * a.den) (a.den * b.den) else (⟨0, 0⟩, 1)
def cmpF (a b : Frac) : Int := if (validF a && validF b) = true then (if a.num * b.den < b.num * a.den then -1 else if b.num * a.den < a.num * b.den then 1 else 0) else 0

/-- The sum of valid fractions, step by step. -/
theorem sumGo_step {acc f : Frac} (r : List Frac) (ha : validF acc = true) (hf : validF f = true) :
    (addF acc f).2 = 0 ∧ sumGo acc (f :: r) = sumGo (addF acc f).1 r ∧ validF (addF acc f).1 = true ∨ addF acc f = (⟨0, 0⟩, 2) ∧ sumGo acc (f :: r) = (⟨0, 0⟩, 2) := by
  have a1 := validF_ok ha
  have a2 := validF_ok hf
  have hd : 0 < acc.den * f.den := Int.mul_pos (by have := a1.2.2.1; omega) (by have := a2.2.2.1; omega)
  unfold addF lowF
  rw [ha, hf, sumGo]
  simp only [Bool.and_self, if_true]
  by_cases hn : normOk (acc.num * f.den + f.num * acc.den) (acc.den * f.den) = true
  · rw [if_pos hn, if_pos hn]
    exact .inl ⟨rfl, rfl, by rw [validF_normN hd]; exact hn⟩
  · rw [if_neg hn, if_neg hn]
    exact .inr ⟨rfl, rfl⟩

/-! ### The greedy way -/
def bestAt (c : List Frac) : Nat → Nat
  | 0 => 0
  | i + 1 => if 0 < cmpF (c.getD i ⟨0, 1⟩) (c.getD (bestAt c i) ⟨0, 1⟩) then i else bestAt c i

def greedy : Nat → List Int → List Frac → List Int
  | 0, o, _ => o
  | t + 1, o, c => greedy t (o.set (bestAt c c.length) (o.getD (bestAt c c.length) 0 + 1)) (c.set (bestAt c c.length) ⟨0, 1⟩)

/-- The cut of a part: in lowest terms. -/
def cutQ (total : Int) (f : Frac) : Frac := normN (cutN total f) f.den

theorem norm_zero {d : Int} (h : 0 < d) : normN 0 d = ⟨0, 1⟩ := by
  have hD : normD 0 d = d := by unfold normD; rw [if_neg (by omega), Int.gcd_zero_left]; omega
  unfold normN
  rw [hD, Int.zero_tdiv, Int.tdiv_self (by omega)]

theorem cross_le {p q a b p' q' a' b' : Int} (h : p * b = a * q) (h' : p' * b' = a' * q') (hq : 0 < q) (hq' : 0 < q') (hb : 0 < b) (hb' : 0 < b') : p * q' ≤ p' * q ↔ a * b' ≤ a' * b := by
  have e1 : (p * q') * (b * b') = (a * b') * (q * q') := by
    calc (p * q') * (b * b') = (p * b) * (q' * b') := by ac_rfl
      _ = (a * q) * (q' * b') := by rw [h]
      _ = (a * b') * (q * q') := by ac_rfl
  have e2 : (p' * q) * (b * b') = (a' * b) * (q * q') := by
    calc (p' * q) * (b * b') = (p' * b') * (q * b) := by ac_rfl
      _ = (a' * q') * (q * b) := by rw [h']
      _ = (a' * b) * (q * q') := by ac_rfl
  have hB : 0 < b * b' := Int.mul_pos hb hb'
  have hQ : 0 < q * q' := Int.mul_pos hq hq'
  constructor
  · intro h0
    have := Int.mul_le_mul_of_nonneg_right h0 (Int.le_of_lt hB)
    rw [e1, e2] at this
    exact Int.le_of_mul_le_mul_right this hQ
  · intro h0
    have := Int.mul_le_mul_of_nonneg_right h0 (Int.le_of_lt hQ)
    rw [← e1, ← e2] at this
    exact Int.le_of_mul_le_mul_right this hB

theorem cross_trans {a b a' b' a'' b'' : Int} (hb : 0 < b) (hb' : 0 < b') (hb'' : 0 < b'') (h1 : a * b' ≤ a' * b) (h2 : a' * b'' ≤ a'' * b') : a * b'' ≤ a'' * b := by
  have e1 : (a * b') * b'' ≤ (a' * b) * b'' := Int.mul_le_mul_of_nonneg_right h1 (by omega)
  have e2 : (a' * b'') * b ≤ (a'' * b') * b := Int.mul_le_mul_of_nonneg_right h2 (by omega)
  have e3 : (a' * b) * b'' = (a' * b'') * b := by ac_rfl
  have e4 : (a * b') * b'' = (a * b'') * b' := by ac_rfl
  have e5 : (a'' * b') * b = (a'' * b) * b' := by ac_rfl
  rw [e3, e4] at e1
  rw [e5] at e2
  exact Int.le_of_mul_le_mul_right (Int.le_trans e1 e2) hb'

/-- The numbers k i / d i, each valid in lowest terms: the one that the scan finds is the first greatest. -/
theorem bestAt_spec {n : Nat} (c : List Frac) (k d : Nat → Int) (hd : ∀ i, i < n → 0 < d i) (hc : ∀ i, i < n → c.getD i ⟨0, 1⟩ = normN (k i) (d i) ∧ validF (normN (k i) (d i)) = true) :
    ∀ m, 0 < m → m ≤ n → bestAt c m < m ∧ (∀ i, i < m → k i * d (bestAt c m) ≤ k (bestAt c m) * d i) ∧ (∀ i, i < bestAt c m → k i * d (bestAt c m) < k (bestAt c m) * d i) := by
  have hcmp : ∀ i j, i < n → j < n → (0 < cmpF (c.getD i ⟨0, 1⟩) (c.getD j ⟨0, 1⟩) ↔ k j * d i < k i * d j) := by
    intro i j hi hj
    obtain ⟨ei, vi⟩ := hc i hi
    obtain ⟨ej, vj⟩ := hc j hj
    rw [ei, ej]
    unfold cmpF
    rw [vi, vj]
    simp only [Bool.and_self, if_true]
    obtain ⟨n1, n2⟩ := normN_val (k i) (d i) (hd i hi)
    obtain ⟨n3, n4⟩ := normN_val (k j) (d j) (hd j hj)
    have hx := cross_le n1 n3 (by omega) (by omega) (hd i hi) (hd j hj)
    generalize (normN (k i) (d i)).num * (normN (k j) (d j)).den = A at *
    generalize (normN (k j) (d j)).num * (normN (k i) (d i)).den = B at *
    by_cases h1 : A < B
    · rw [if_pos h1]
      have := hx.1 (by omega)
      omega
    · rw [if_neg h1]
      by_cases h2 : B < A
      · rw [if_pos h2]
        have : ¬ k i * d j ≤ k j * d i := fun h => by have := hx.2 h; omega
        omega
      · rw [if_neg h2]
        have := hx.1 (by omega)
        omega
  intro m
  induction m with
  | zero => intro h; omega
  | succ m ih =>
    intro _ hm
    by_cases h0 : m = 0
    · subst h0
      have : bestAt c 1 = 0 := by
        show (if 0 < cmpF (c.getD 0 ⟨0, 1⟩) (c.getD 0 ⟨0, 1⟩) then 0 else 0) = 0
        split <;> rfl
      rw [this]
      refine ⟨by omega, fun i hi => ?_, fun i hi => by omega⟩
      obtain rfl : i = 0 := by omega
      exact Int.le_refl _
    · obtain ⟨i1, i2, i3⟩ := ih (by omega) (by omega)
      rw [bestAt]
      by_cases hq : 0 < cmpF (c.getD m ⟨0, 1⟩) (c.getD (bestAt c m) ⟨0, 1⟩)
      · rw [if_pos hq]
        have h1 := (hcmp m (bestAt c m) (by omega) (by omega)).1 hq
        have key : ∀ i, i < m → k i * d m < k m * d i := fun i hi => by
          have h2 := i2 i hi
          rcases Int.lt_or_le (k i * d m) (k m * d i) with h | h
          · exact h
          · have := cross_trans (hd m (by omega)) (hd i (by omega)) (hd _ (by omega)) h h2
            omega
        refine ⟨by omega, fun i hi => ?_, key⟩
        by_cases e : i = m
        · subst e; exact Int.le_refl _
        · have := key i (by omega); omega
      · rw [if_neg hq]
        have h1 : ¬ k (bestAt c m) * d m < k m * d (bestAt c m) := fun h => hq ((hcmp m (bestAt c m) (by omega) (by omega)).2 h)
        refine ⟨by omega, fun i hi => ?_, i3⟩
        by_cases e : i = m
        · subst e; omega
        · exact i2 i (by omega)

/-- There is one first greatest. -/
theorem first_greatest {n p b : Nat} {k d : Nat → Int} (hp : p < n) (hb : b < n)
    (p1 : ∀ i, i < n → k i * d p ≤ k p * d i) (p2 : ∀ i, i < p → k i * d p < k p * d i)
    (b1 : ∀ i, i < n → k i * d b ≤ k b * d i) (b2 : ∀ i, i < b → k i * d b < k b * d i) : b = p := by
  rcases Nat.lt_trichotomy b p with h | h | h
  · have := p2 b h; have := b1 p hp; omega
  · exact h
  · have := b2 p h; have := p1 b hb; omega

/-! ### The order of a split -/
theorem compareInt_neg (a b : Int) : (Lib.compareInt a b < 0) ↔ a < b := by
  unfold Lib.compareInt
  split
  · omega
  · split <;> omega

theorem cmpP_neg (total : Int) (l : List Frac) (i j : Nat) : ltC (cmpP total l) i j = decide (cutN total (l.getD j ⟨0, 1⟩) * (l.getD i ⟨0, 1⟩).den < cutN total (l.getD i ⟨0, 1⟩) * (l.getD j ⟨0, 1⟩).den) := by
  unfold ltC cmpP
  rw [Bool.eq_iff_iff, decide_eq_true_eq, decide_eq_true_eq]
  exact compareInt_neg _ _

theorem cmpP_swo {total : Int} {l : List Frac} (hd : ∀ i, 0 < (l.getD i ⟨0, 1⟩).den) : SWO (ltC (cmpP total l)) where
  irrefl x := by rw [cmpP_neg]; simp
  trans x y z h1 h2 := by
    rw [cmpP_neg, decide_eq_true_eq] at *
    generalize cutN total (l.getD x ⟨0, 1⟩) = a at *
    generalize cutN total (l.getD y ⟨0, 1⟩) = b at *
    generalize cutN total (l.getD z ⟨0, 1⟩) = c at *
    have dx := hd x
    have dy := hd y
    have dz := hd z
    generalize (l.getD x ⟨0, 1⟩).den = p at *
    generalize (l.getD y ⟨0, 1⟩).den = q at *
    generalize (l.getD z ⟨0, 1⟩).den = r at *
    rcases Int.lt_or_le (c * p) (a * r) with h | h
    · exact h
    · have := cross_trans dx dz dy h (Int.le_of_lt h2)
      omega
  ntrans x y z h1 h2 := by
    rw [cmpP_neg, decide_eq_false_iff_not] at *
    have := cross_trans (hd x) (hd y) (hd z) (Int.not_lt.1 h1) (Int.not_lt.1 h2)
    omega

/-! ### How much is left -/
def nzOf (total : Int) (l : List Frac) : Nat := l.countP (fun f => decide (cutN total f ≠ 0))

theorem base_cut {total : Int} {f : Frac} (h0 : 0 ≤ total) (hn : 0 ≤ f.num) (hd : 0 < f.den) : total * f.num = baseF total f * f.den + cutN total f ∧ 0 ≤ cutN total f ∧ cutN total f < f.den := by
  have h1 : 0 ≤ total * f.num := Int.mul_nonneg h0 hn
  unfold baseF cutN
  rw [Int.tdiv_eq_ediv_of_nonneg h1]
  have := Int.mul_ediv_add_emod (total * f.num) f.den
  rw [Int.mul_comm f.den] at this
  exact ⟨this.symm, Int.emod_nonneg _ (by omega), Int.emod_lt_of_pos _ hd⟩

theorem split_inv2 {total : Int} (h0 : 0 ≤ total) (l : List Frac) (hf : ∀ f ∈ l, frOk f ∧ 0 ≤ f.num) (hs : sumsOk l) : ∀ k, k ≤ l.length →
    total * (sumFr (l.take k)).num ≤ (baseSum total (l.take k) + nzOf total (l.take k)) * (sumFr (l.take k)).den := by
  intro k
  induction k with
  | zero =>
    intro _
    show total * 0 ≤ (baseSum total [] + (0 : Nat)) * 1
    simp [baseSum]
  | succ k ih =>
    intro hk
    have i2 := ih (by omega)
    obtain ⟨_, _, i3, i4⟩ := split_inv h0 l hf hs k (by omega)
    obtain ⟨f1, f2⟩ := hf l[k] (List.getElem_mem _)
    obtain ⟨b1, b2, b3⟩ := base_cut h0 f2 (f := l[k]) (by have := f1.2.2.1; omega)
    have htk : l.take (k + 1) = l.take k ++ [l[k]] := List.take_succ_eq_append_getElem (by omega)
    have hsf : sumFr (l.take (k + 1)) = sumStep (sumFr (l.take k)) l[k] := by
      unfold sumFr; rw [htk, List.foldl_append]; rfl
    have hbs : baseSum total (l.take (k + 1)) = baseSum total (l.take k) + baseF total l[k] := by
      rw [htk, baseSum_append]; simp [baseSum]
    obtain ⟨e, he, hb4⟩ : ∃ e : Nat, nzOf total (l.take (k + 1)) = nzOf total (l.take k) + e ∧ total * l[k].num ≤ (baseF total l[k] + e) * l[k].den := by
      refine ⟨if cutN total l[k] ≠ 0 then 1 else 0, ?_, ?_⟩
      · unfold nzOf
        rw [htk, List.countP_append]
        by_cases h : cutN total l[k] = 0 <;> simp [h]
      · rw [b1, Int.add_mul]
        by_cases h : cutN total l[k] = 0
        · rw [if_neg (by simpa using h), h]; simp
        · rw [if_pos h]; simp; omega
    rw [hsf, hbs, he]
    clear hsf hbs htk he b1 b2 b3
    generalize l[k] = f at *
    generalize sumFr (l.take k) = a at *
    generalize baseSum total (l.take k) = S at *
    generalize baseF total f = b at *
    generalize nzOf total (l.take k) = z at *
    have hfd : 1 ≤ f.den := f1.2.2.1
    have hD : 0 < a.den * f.den := Int.mul_pos (by omega) (by omega)
    obtain ⟨n1, n2⟩ := normN_val (a.num * f.den + f.num * a.den) (a.den * f.den) hD
    have e0 : sumStep a f = normN (a.num * f.den + f.num * a.den) (a.den * f.den) := rfl
    rw [← e0] at n1 n2
    generalize sumStep a f = c at *
    clear e0
    have c3 : (total * a.num) * f.den ≤ ((S + z) * a.den) * f.den := Int.mul_le_mul_of_nonneg_right i2 (by omega)
    have c4 : (total * f.num) * a.den ≤ ((b + e) * f.den) * a.den := Int.mul_le_mul_of_nonneg_right hb4 (by omega)
    have s3 : ((S + z) * a.den) * f.den = (S + z) * (a.den * f.den) := Int.mul_assoc _ _ _
    have s4 : ((b + e) * f.den) * a.den = (b + e) * (a.den * f.den) := by rw [Int.mul_assoc, Int.mul_comm f.den]
    have s5 : total * (a.num * f.den + f.num * a.den) = (total * a.num) * f.den + (total * f.num) * a.den := by rw [Int.mul_add, ← Int.mul_assoc, ← Int.mul_assoc]
    generalize a.den * f.den = D at *
    have t2 : total * (a.num * f.den + f.num * a.den) ≤ (S + b + ((z + e : Nat) : Int)) * D := by
      have e : (S + b + ((z + e : Nat) : Int)) * D = (S + z) * D + (b + e) * D := by rw [← Int.add_mul]; congr 1; omega
      rw [s5, e]; omega
    generalize a.num * f.den + f.num * a.den = N at *
    have u2 : (total * c.num) * D ≤ ((S + b + ((z + e : Nat) : Int)) * c.den) * D := by
      have e1 : ((S + b + ((z + e : Nat) : Int)) * c.den) * D = ((S + b + ((z + e : Nat) : Int)) * D) * c.den := by rw [Int.mul_assoc, Int.mul_comm c.den, ← Int.mul_assoc]
      have e2 : (total * c.num) * D = (total * N) * c.den := by rw [Int.mul_assoc, n1, ← Int.mul_assoc]
      rw [e1, e2]
      exact Int.mul_le_mul_of_nonneg_right t2 (by omega)
    exact Int.le_of_mul_le_mul_right u2 hD

theorem splitLeft_nz {total : Int} {l : List Frac} (h : splitFine total l = true) (hs : sumsOk l) : splitLeft total l ≤ nzOf total l := by
  obtain ⟨h1, h2, h3⟩ := fine_all h
  have hf : ∀ f ∈ l, frOk f ∧ 0 ≤ f.num := fun f hf => ⟨(h3 f hf).2.1, (h3 f hf).2.2.1⟩
  have hi := split_inv h1 l hf hs l.length (Nat.le_refl _)
  have hj := split_inv2 h1 l hf hs l.length (Nat.le_refl _)
  rw [List.take_length] at hi hj
  obtain ⟨i1, i2, i3, i4⟩ := hi
  have hn : 0 ≤ total * (sumFr l).num := Int.mul_nonneg h1 i4
  unfold splitLeft
  rw [Int.tdiv_eq_ediv_of_nonneg hn]
  have j2 : total * (sumFr l).num / (sumFr l).den ≤ baseSum total l + nzOf total l := by
    have := Int.ediv_le_ediv (show 0 < (sumFr l).den by omega) hj
    rw [Int.mul_ediv_cancel _ (by omega)] at this
    exact this
  omega
end Lg

/-
  Plain laws of fractions: sums and products in any order; a difference undoes a sum; sums keep the order.
-/
namespace Lg
open Go

/-- The fraction in lowest terms of a value is the only one. -/
theorem normN_unique {num den : Int} {f : Frac} (hd : 0 < den) (hf : 0 < f.den) (hg : Int.gcd f.num f.den = 1) (h : num * f.den = f.num * den) : normN num den = f := by
  obtain ⟨h1, h2⟩ := normN_val num den hd
  have h3 := normN_gcd (num := num) hd
  generalize normN num den = n at *
  have e : n.num * f.den = f.num * n.den := by
    have : (n.num * f.den) * den = (f.num * n.den) * den := by
      have a1 : (n.num * f.den) * den = (n.num * den) * f.den := by ac_rfl
      have a2 : (f.num * n.den) * den = (f.num * den) * n.den := by ac_rfl
      rw [a1, a2, h1, ← h]; ac_rfl
    exact Int.eq_of_mul_eq_mul_right (by omega) this
  have e2 : n.num.natAbs * f.den.natAbs = f.num.natAbs * n.den.natAbs := by rw [← Int.natAbs_mul, e, Int.natAbs_mul]
  have g1 : Nat.Coprime f.den.natAbs f.num.natAbs := by rw [Nat.coprime_comm]; exact hg
  have g2 : Nat.Coprime n.den.natAbs n.num.natAbs := by rw [Nat.coprime_comm]; exact h3
  have d1 : f.den.natAbs ∣ n.den.natAbs := g1.dvd_of_dvd_mul_left (n := n.den.natAbs) ⟨n.num.natAbs, by rw [← e2, Nat.mul_comm]⟩
  have d2 : n.den.natAbs ∣ f.den.natAbs := g2.dvd_of_dvd_mul_left (n := f.den.natAbs) ⟨f.num.natAbs, by rw [e2, Nat.mul_comm]⟩
  have d3 := Nat.dvd_antisymm d1 d2
  have d4 : n.den = f.den := by omega
  have d5 : n.num = f.num := by
    rw [d4] at e
    exact Int.eq_of_mul_eq_mul_right (by omega) e
  cases n; cases f; simp_all

theorem validF_parts {f : Frac} (h : validF f = true) : 1 ≤ f.den ∧ f.den ≤ 1000000 ∧ -1000000000000 ≤ f.num ∧ f.num ≤ 1000000000000 ∧ Int.gcd f.num f.den = 1 := by
  unfold validF at h
  simp only [Bool.and_eq_true, inn_iff, decide_eq_true_eq] at h
  exact ⟨h.1.1.1, h.1.1.2, h.1.2.1, h.1.2.2, h.2⟩

theorem addF_comm (a b : Frac) : addF a b = addF b a := by
  unfold addF
  rw [Bool.and_comm]
  rw [Int.add_comm, Int.mul_comm a.den b.den]

theorem validF_neg (b : Frac) : validF (negF b) = validF b := by
  have hg : Int.gcd (-b.num) b.den = Int.gcd b.num b.den := by unfold Int.gcd; rw [Int.natAbs_neg]
  unfold validF negF inn
  dsimp only
  rw [hg, Bool.eq_iff_iff]
  simp only [Bool.and_eq_true, decide_eq_true_eq]
  constructor
  · rintro ⟨⟨h1, h2, h3⟩, h4⟩; exact ⟨⟨h1, by omega, by omega⟩, h4⟩
  · rintro ⟨⟨h1, h2, h3⟩, h4⟩; exact ⟨⟨h1, by omega, by omega⟩, h4⟩

/-- What Sub gives. -/
def subF (a b : Frac) : Frac × Int := addF a (negF b)

theorem addF_ok {a b : Frac} (h : (addF a b).2 = 0) : validF a = true ∧ validF b = true ∧ (addF a b).1 = normN (a.num * b.den + b.num * a.den) (a.den * b.den) ∧ normOk (a.num * b.den + b.num * a.den) (a.den * b.den) = true := by
  unfold addF lowF at *
  split at h
  · rename_i hv
    rw [Bool.and_eq_true] at hv
    split at h
    · rename_i ho
      rw [if_pos (by rw [hv.1, hv.2]; rfl), if_pos ho]
      exact ⟨hv.1, hv.2, rfl, ho⟩
    · cases h
  · cases h

theorem addF_valid {a b : Frac} (h : (addF a b).2 = 0) : validF (addF a b).1 = true ∧ (addF a b).1.num * (a.den * b.den) = (a.num * b.den + b.num * a.den) * (addF a b).1.den := by
  obtain ⟨h1, h2, h3, h4⟩ := addF_ok h
  obtain ⟨a1, a2, a3, a4, a5⟩ := validF_parts h1
  obtain ⟨b1, b2, b3, b4, b5⟩ := validF_parts h2
  have hd : 0 < a.den * b.den := Int.mul_pos (by omega) (by omega)
  rw [h3]
  exact ⟨by rw [validF_normN hd]; exact h4, (normN_val _ _ hd).1⟩

/-- Sub undoes Add. -/
theorem sub_add {a b : Frac} (h : (addF a b).2 = 0) : subF (addF a b).1 b = (a, 0) := by
  obtain ⟨h1, h2, _, _⟩ := addF_ok h
  obtain ⟨v1, v2⟩ := addF_valid h
  obtain ⟨a1, a2, a3, a4, a5⟩ := validF_parts h1
  obtain ⟨b1, b2, b3, b4, b5⟩ := validF_parts h2
  obtain ⟨c1, c2, c3, c4, c5⟩ := validF_parts v1
  generalize (addF a b).1 = x at *
  have hd : 0 < x.den * b.den := Int.mul_pos (by omega) (by omega)
  have hn : normN (x.num * b.den + -b.num * x.den) (x.den * b.den) = a := by
    refine normN_unique hd (by omega) a5 ?_
    have e1 : (x.num * b.den + -b.num * x.den) * a.den = x.num * (a.den * b.den) - (b.num * a.den) * x.den := by
      rw [Int.add_mul, Int.neg_mul, Int.neg_mul, ← Int.sub_eq_add_neg]
      congr 1 <;> ac_rfl
    rw [e1, v2, Int.add_mul, Int.add_sub_cancel]
    ac_rfl
  unfold subF addF
  rw [validF_neg, v1, h2, if_pos (show (true && true) = true from rfl)]
  unfold lowF
  have ho : normOk (x.num * (negF b).den + (negF b).num * x.den) (x.den * (negF b).den) = true := by
    have := validF_normN (num := x.num * b.den + -b.num * x.den) hd
    rw [hn, h1] at this
    exact this.symm
  rw [if_pos ho]
  exact Prod.ext hn rfl

theorem cmpF_anti (a b : Frac) : cmpF a b = -cmpF b a := by
  unfold cmpF
  rw [Bool.and_comm]
  split
  · rcases Int.lt_trichotomy (a.num * b.den) (b.num * a.den) with h | h | h
    · rw [if_pos h, if_neg (by omega), if_pos h]
    · rw [if_neg (by omega), if_neg (by omega), if_neg (by omega), if_neg (by omega)]; rfl
    · rw [if_neg (by omega), if_pos h, if_pos h]; rfl
  · rfl

/-- A sum keeps the order. -/
theorem cmp_add {a b c : Frac} (h1 : (addF a c).2 = 0) (h2 : (addF b c).2 = 0) : cmpF (addF a c).1 (addF b c).1 = cmpF a b := by
  obtain ⟨va, vc, _, _⟩ := addF_ok h1
  obtain ⟨vb, _, _, _⟩ := addF_ok h2
  obtain ⟨vs, es⟩ := addF_valid h1
  obtain ⟨vt, et⟩ := addF_valid h2
  have a1 := (validF_parts va).1
  have b1 := (validF_parts vb).1
  have c1 := (validF_parts vc).1
  have s1 := (validF_parts vs).1
  have t1 := (validF_parts vt).1
  generalize (addF a c).1 = s at *
  generalize (addF b c).1 = t at *
  -- s < t as a < b
  have key : ∀ {a b c s t : Frac}, 1 ≤ a.den → 1 ≤ b.den → 1 ≤ c.den → 1 ≤ s.den → 1 ≤ t.den → s.num * (a.den * c.den) = (a.num * c.den + c.num * a.den) * s.den → t.num * (b.den * c.den) = (b.num * c.den + c.num * b.den) * t.den →
      (s.num * t.den < t.num * s.den ↔ a.num * b.den < b.num * a.den) := by
    intro a b c s t a1 b1 c1 s1 t1 es et
    have hK : 0 < (a.den * c.den) * (b.den * c.den) := Int.mul_pos (Int.mul_pos (by omega) (by omega)) (Int.mul_pos (by omega) (by omega))
    have hS : 0 < (s.den * t.den) * (c.den * c.den) := Int.mul_pos (Int.mul_pos (by omega) (by omega)) (Int.mul_pos (by omega) (by omega))
    have e1 : (s.num * t.den) * ((a.den * c.den) * (b.den * c.den)) = ((a.num * c.den + c.num * a.den) * (b.den * c.den)) * (s.den * t.den) := by
      have : (s.num * t.den) * ((a.den * c.den) * (b.den * c.den)) = (s.num * (a.den * c.den)) * (t.den * (b.den * c.den)) := by ac_rfl
      rw [this, es]; ac_rfl
    have e2 : (t.num * s.den) * ((a.den * c.den) * (b.den * c.den)) = ((b.num * c.den + c.num * b.den) * (a.den * c.den)) * (s.den * t.den) := by
      have : (t.num * s.den) * ((a.den * c.den) * (b.den * c.den)) = (t.num * (b.den * c.den)) * (s.den * (a.den * c.den)) := by ac_rfl
      rw [this, et]; ac_rfl
    have d1 : ((a.num * c.den + c.num * a.den) * (b.den * c.den)) * (s.den * t.den) = (a.num * b.den) * ((s.den * t.den) * (c.den * c.den)) + (c.num * a.den * b.den * c.den) * (s.den * t.den) := by
      rw [Int.add_mul, Int.add_mul]; congr 1 <;> ac_rfl
    have d2 : ((b.num * c.den + c.num * b.den) * (a.den * c.den)) * (s.den * t.den) = (b.num * a.den) * ((s.den * t.den) * (c.den * c.den)) + (c.num * a.den * b.den * c.den) * (s.den * t.den) := by
      rw [Int.add_mul, Int.add_mul]; congr 1 <;> ac_rfl
    constructor
    · intro h
      have h3 := Int.mul_lt_mul_of_pos_right h hK
      rw [e1, e2, d1, d2] at h3
      exact Int.lt_of_mul_lt_mul_right (by omega : (a.num * b.den) * ((s.den * t.den) * (c.den * c.den)) < (b.num * a.den) * ((s.den * t.den) * (c.den * c.den))) (by omega)
    · intro h
      have h3 := Int.mul_lt_mul_of_pos_right h hS
      have h4 : (s.num * t.den) * ((a.den * c.den) * (b.den * c.den)) < (t.num * s.den) * ((a.den * c.den) * (b.den * c.den)) := by rw [e1, e2, d1, d2]; omega
      exact Int.lt_of_mul_lt_mul_right h4 (by omega)
  have k1 := key a1 b1 c1 s1 t1 es et
  have k2 := key b1 a1 c1 t1 s1 et es
  unfold cmpF
  rw [vs, vt, va, vb]
  simp only [Bool.and_self, if_true]
  by_cases h : a.num * b.den < b.num * a.den
  · rw [if_pos h, if_pos (k1.2 h)]
  · rw [if_neg h, if_neg (fun q => h (k1.1 q))]
    by_cases g : b.num * a.den < a.num * b.den
    · rw [if_pos g, if_pos (k2.2 g)]
    · rw [if_neg g, if_neg (fun q => g (k2.1 q))]

/-- What Mul gives. -/
def mulF (a b : Frac) : Frac × Int := if (validF a && validF b) = true then (match timesO a b with | some r => (r, 0) | none => (⟨0, 0⟩, 2)) else (⟨0, 0⟩, 1)

theorem over_iff {M m n : Int} (hM : 0 ≤ M) (hm : 0 < m) (_hn : 0 < n) : M.tdiv m < n ↔ M < m * n := by
  rw [Int.tdiv_eq_ediv_of_nonneg hM, Int.ediv_lt_iff_lt_mul hm, Int.mul_comm]

theorem timesO_comm (a b : Frac) : timesO a b = timesO b a := by
  unfold timesO
  dsimp only
  generalize a.num.tdiv (mulC a b) = m
  generalize b.num.tdiv (mulC b a) = n
  rw [Int.mul_comm m n, Int.mul_comm (a.den.tdiv (mulC b a))]
  have hc : (m ≠ 0 ∧ Int.tdiv 1000000000000 (max m (-m)) < max n (-n)) ↔ (n ≠ 0 ∧ Int.tdiv 1000000000000 (max n (-n)) < max m (-m)) := by
    by_cases hm : m = 0
    · subst hm
      constructor
      · rintro ⟨h, _⟩; exact absurd rfl h
      · rintro ⟨hn, h⟩
        exfalso
        have : (0 : Int) ≤ Int.tdiv 1000000000000 (max n (-n)) := Int.tdiv_nonneg (by decide) (by omega)
        have e : max (0 : Int) (-0) = 0 := rfl
        rw [e] at h
        omega
    · by_cases hn : n = 0
      · subst hn
        constructor
        · rintro ⟨_, h⟩
          exfalso
          have : (0 : Int) ≤ Int.tdiv 1000000000000 (max m (-m)) := Int.tdiv_nonneg (by decide) (by omega)
          have e : max (0 : Int) (-0) = 0 := rfl
          rw [e] at h
          omega
        · rintro ⟨h, _⟩; exact absurd rfl h
      · have p : 0 < max m (-m) := by omega
        have q : 0 < max n (-n) := by omega
        rw [over_iff (by decide) p q, over_iff (by decide) q p, Int.mul_comm]
        exact ⟨fun h => ⟨hn, h.2⟩, fun h => ⟨hm, h.2⟩⟩
  by_cases h : m ≠ 0 ∧ Int.tdiv 1000000000000 (max m (-m)) < max n (-n)
  · rw [if_pos h, if_pos (hc.1 h)]
  · rw [if_neg h, if_neg (fun g => h (hc.2 g))]

theorem mulF_comm (a b : Frac) : mulF a b = mulF b a := by
  unfold mulF
  rw [Bool.and_comm, timesO_comm]

end Lg
