import Derived.Test.YtollegoajlfdiaaGreatPart01
import Derived.Deep.Quiet
import Derived.OrdersIn
import Derived.RangeFuncCalls
import Derived.Test.YtollegoajlfdiaaGreatPart11
import Derived.BigQuiet
import Derived.BigRegion
import Derived.Test.YtollegoajlfdiaaGreatPart17
import Derived.Test.YtollegoajlfdiaaGreatPart10
/-
  A region that draws its order inside a loop over an iterator: one walk, in the order of the text.
-/
namespace Go.Proofs.YtollegoajlfdiaaGreat
open Go.RowKit Lg Go.Sort

section
variable {P : Program} {ops : Array Oper} {md : Region.Mode} {C : World → Prop} {r n : Nat}

theorem wpInRound_of_quiet {o : Oper} {a : Act} {K : Act → Prop} {K' : Act → World → Prop} {Q' : Exit → Act → World → Prop} {w : World} (hw : C w) (h : ∀ a w', C w' → K a → K' a w')
    (hh : o.quiet P a C K) : o.wpIn (Fence.wide.inRound r) n P a w K' Q' := by
  obtain ⟨v, h1, h2⟩ := hh
  have h3 := h1 w hw
  unfold Oper.quietAt at h3
  unfold Oper.wpIn
  refine ⟨fun _ _ => trivial, ?_⟩
  have hsem : (o.semAt (Fence.wide.inRound r).round a.eval) = execOp a.eval o := by
    refine Oper.semAt_eq _ _ _ (fun c hc => ?_)
    rw [show execOp a.eval o = (do pure (.defer (← resolve a.eval c o.type))) by unfold execOp; rw [hc]] at h3
    simp only [Sem.run_bind] at h3
    cases hr : (resolve a.eval c o.type).run P w with
    | ok d w' => rw [hr] at h3; simp [Result.andThen, Oper.quietUpon, pure] at h3
    | halt x w' => rw [hr] at h3; simp [Result.andThen, Oper.quietUpon] at h3
  rw [hsem]
  generalize (execOp a.eval o).run P w = res at *
  cases res with
  | ok x w' =>
    cases x <;> simp only [Oper.quietUpon] at h3 <;> simp only [Oper.uponIn]
    case value u =>
      obtain ⟨e1, e2⟩ := h3
      rw [e1, e2]
      exact h _ _ hw h2
    case skip =>
      obtain ⟨e1, e2⟩ := h3
      rw [e1, ← e2]
      exact h _ _ hw h2
    case enter f args =>
      obtain ⟨e1, hc⟩ := h3
      rw [e1]
      exact ⟨fun h => by simp [Fence.wide] at h, CallsIn.inRound r (callsIn_wide.2 (hc.mono fun e w'' ⟨he, hw''⟩ => by subst he; exact h _ _ hw'' h2))⟩
  | halt x w' => simp only [Oper.quietUpon] at h3

theorem wpOpInRound_of_qOp {i : Nat} {a : Act} {K : Act → Prop} {K' : Act → World → Prop} {Q' : Exit → Act → World → Prop} {w : World} (hC : C w) (h : ∀ a w', C w' → K a → K' a w')
    (hh : qOp P ops C i K a) : wpOpIn (Fence.wide.inRound r) n P ops Q' i K' a w := by
  unfold qOp at hh
  unfold wpOpIn
  split
  · rename_i ho; simp only [ho] at hh; exact h _ _ hC hh
  · rename_i o ho
    simp only [ho] at hh
    split
    · rename_i hw; simp only [hw, if_true] at hh; exact wpInRound_of_quiet hC h hh
    · rename_i hw; simp only [hw] at hh; exact ⟨fun _ _ => trivial, h _ _ hC hh⟩

theorem wpAnyInRound_of_quiet {Q : Act → Prop} {Q' : Exit → Act → World → Prop} (hQ : ∀ a w, C w → Q a → Q' .normal a w) : ∀ (fuel : Nat) (listed : Array Bool) (a : Act) (w : World), C w →
    wpAnyQ P md ops C Q fuel listed a → wpAnyIn (Fence.wide.inRound r) n P md ops Q' fuel listed a w
  | 0, _, _, _, hw, h => ⟨h.1, hQ _ _ hw h.2⟩
  | fuel + 1, _, _, _, hw, h => ⟨fun h0 => hQ _ _ hw (h.1 h0), fun i hi => wpOpInRound_of_qOp hw (fun a' w' hw' => wpAnyInRound_of_quiet hQ fuel _ a' w' hw') (h.2 i hi)⟩

theorem wpInRound_region_quiet {id : Nat} {Q : Exit → Act → World → Prop} {a : Act} {w : World} (hm : P.follows .mixedOrders = true) (hB : Region.lexB .any ops = true) (hC : C { w with drawn := w.drawn + 1 })
    (h : wpQuiet P ops C (fun a' => ∀ w', C w' → Q .normal a' w') ops.toList a) : (Code.region id ops true).wpIn (Fence.wide.inRound r) n P Q a w := by
  simp only [Region.lexB, Bool.and_eq_true] at hB
  refine wpIn_region_any hm (wpAnyInRound_of_quiet (Q := fun a' => ∀ w', C w' → Q .normal a' w') (fun _ w' hw' h => h w' hw') _ _ _ _ hC ?_)
  have := wpAnyQ_lex (C := C) (md := .any) hB.1 ops.toList 0 (Array.replicate ops.size false) a (by simp) (by simpa using hB.2) h
  simpa using this

theorem wpInRound_region_quiet_lit {id : Nat} {Q : Exit → Act → World → Prop} {a : Act} {w : World} {l : List Oper} (hm : P.follows .mixedOrders = true) (hB : Region.lexB .any l.toArray = true)
    (h : wpQuiet P l.toArray (fun w' => ∃ n, w' = w.drewN n) (fun a' => ∀ w', (∃ n, w' = w.drewN n) → Q .normal a' w') l a) : (Code.region id l.toArray true).wpIn (Fence.wide.inRound r) n P Q a w :=
  wpInRound_region_quiet (C := fun w' => ∃ n, w' = w.drewN n) hm hB ⟨1, rfl⟩ (by simpa using h)
end

end Go.Proofs.YtollegoajlfdiaaGreat

/-
  Walk: the rate in force.
-/
namespace Go.Proofs.YtollegoajlfdiaaGreat
open Go.RowKit Lg Go.Sort Go.Shelf

attribute [local go_sem] Oper.semAt_some

theorem setAll_lo (x y z : Rate) : setAll (cR x ++ cR y).toArray 0 (cR z) = (cR z ++ cR y).toArray := by kernel_rfl
theorem setAll_zero (z : Rate) : setAll #[.int .i64 0, .int .i64 0, .int .i64 0, .string ⟨#[]⟩, .int .i64 0, .int .i64 0, .int .i64 0, .int .i64 0, .int .i64 0] 0 (cR z) = (cR z).toArray := by kernel_rfl
theorem setAll_hi (x y z : Rate) : setAll (cR x ++ cR y).toArray 9 (cR z) = (cR x ++ cR z).toArray := by kernel_rfl

/-- What holds between two rounds of the search. -/
def IP (w : World) (goods : ByteArray) (hour : Int) (W2 : World) (pre : List Rate) (W : World) : Prop :=
  Blk W w.heap.size #[.string goods] 9 ∧ Blk W (w.heap.size + 1) #[.int .i64 hour] 3 ∧ Blk W (w.heap.size + 1 + 1) #[.int .i64 0, .int .i64 0, .int .i64 0, .string ⟨#[]⟩, .int .i64 0, .int .i64 0, .int .i64 0, .int .i64 0, .int .i64 0] 26 ∧
    Blk W (w.heap.size + 1 + 1 + 1) (cR (pre.foldl (bestStep goods hour) (zeroRate, zeroRate)).1 ++ cR (pre.foldl (bestStep goods hour) (zeroRate, zeroRate)).2).toArray 123 ∧ Below w.heap.size w W ∧ W2.heap.size ≤ W.heap.size

set_option maxRecDepth 100000 in
set_option maxHeartbeats 1600000 in
theorem inForce_any (a : Option Addr) (m cap : Nat) (xs : List Rate) (goods : ByteArray) (hour known : Int) (w : World) (hL : Lst w 9 cR a m cap xs) :
    Calls Tryz.prog 55 #[.slice a m cap, .string goods, .int .i64 hour, .int .i64 known] w (Gives w (.tuple #[aR (inForce xs goods hour known).1, .bool (inForce xs goods hour known).2])) := by
  refine (callsIn_wide (n := 3)).1 ?_
  have hw91 : Fence.wide.fn 91 := trivial
  refine callsIn_of_wp_marks Tryz.func55 rfl trivial ?_ rfl
  simp only [Tryz.ntmps55, List.size_toArray, List.length_cons, List.length_nil, Nat.reduceAdd, Nat.reduceSub, Array.replicate_succ, Array.replicate_zero, List.push_toArray, List.append_toArray, List.nil_append, List.cons_append]
  gi_wp2_with (gi_at_call 91; refine (callsIn_wide.2 (countingR_any _ _ _ _ _)).mono ?_; rintro e w' ⟨rfl, rfl⟩)
  obtain ⟨W0, hW0⟩ : ∃ W0, W0 = (((w.alloc (.cells #[.string goods] 9)).alloc (.cells #[.int .i64 hour] 3)).alloc (.cells #[.int .i64 0, .int .i64 0, .int .i64 0, .string ⟨#[]⟩, .int .i64 0, .int .i64 0, .int .i64 0, .int .i64 0, .int .i64 0] 26)).alloc (.cells #[.int .i64 0, .int .i64 0, .int .i64 0, .string ⟨#[]⟩, .int .i64 0, .int .i64 0, .int .i64 0, .int .i64 0, .int .i64 0, .int .i64 0, .int .i64 0, .int .i64 0, .string ⟨#[]⟩, .int .i64 0, .int .i64 0, .int .i64 0, .int .i64 0, .int .i64 0] 123) := ⟨_, rfl⟩
  rw [← hW0]
  obtain ⟨W2, hW2⟩ : ∃ W2, W2 = (W0.alloc (.cells #[.slice a m cap] 22)).alloc (.cells #[.int .i64 known] 3) := ⟨_, rfl⟩
  rw [← hW2]
  have hsz0 : W0.heap.size = w.heap.size + 1 + 1 + 1 + 1 := by rw [hW0]; simp
  have hsz2 : W2.heap.size = w.heap.size + 6 := by rw [hW2]; simp [hsz0]
  have j1 := Blk.new w 9 #[.string goods]
  have j2 := Blk.new (w.alloc (.cells #[.string goods] 9)) 3 #[.int .i64 hour]
  have j3 := Blk.new ((w.alloc (.cells #[.string goods] 9)).alloc (.cells #[.int .i64 hour] 3)) 26 #[.int .i64 0, .int .i64 0, .int .i64 0, .string ⟨#[]⟩, .int .i64 0, .int .i64 0, .int .i64 0, .int .i64 0, .int .i64 0]
  have j4 := Blk.new (((w.alloc (.cells #[.string goods] 9)).alloc (.cells #[.int .i64 hour] 3)).alloc (.cells #[.int .i64 0, .int .i64 0, .int .i64 0, .string ⟨#[]⟩, .int .i64 0, .int .i64 0, .int .i64 0, .int .i64 0, .int .i64 0] 26)) 123 #[.int .i64 0, .int .i64 0, .int .i64 0, .string ⟨#[]⟩, .int .i64 0, .int .i64 0, .int .i64 0, .int .i64 0, .int .i64 0, .int .i64 0, .int .i64 0, .int .i64 0, .string ⟨#[]⟩, .int .i64 0, .int .i64 0, .int .i64 0, .int .i64 0, .int .i64 0]
  simp only [World.size_alloc] at j2 j3 j4
  have hB0 : Below w.heap.size w W0 := hW0 ▸ ((((Below.refl _ w).alloc (Nat.le_refl _) _).alloc (by simp) _).alloc (by simp; omega) _).alloc (by simp; omega) _
  have hB2 : Below w.heap.size w W2 := hW2 ▸ (hB0.alloc hB0.size _).alloc (by simp; omega) _
  have k1 : Blk W2 w.heap.size #[.string goods] 9 := by rw [hW2, hW0]; exact ((((j1.alloc _).alloc _).alloc _).alloc _).alloc _
  have k2 : Blk W2 (w.heap.size + 1) #[.int .i64 hour] 3 := by rw [hW2, hW0]; exact (((j2.alloc _).alloc _).alloc _).alloc _
  have k3 : Blk W2 (w.heap.size + 1 + 1) #[.int .i64 0, .int .i64 0, .int .i64 0, .string ⟨#[]⟩, .int .i64 0, .int .i64 0, .int .i64 0, .int .i64 0, .int .i64 0] 26 := by rw [hW2, hW0]; exact ((j3.alloc _).alloc _).alloc _
  have k4 : Blk W2 (w.heap.size + 1 + 1 + 1) #[.int .i64 0, .int .i64 0, .int .i64 0, .string ⟨#[]⟩, .int .i64 0, .int .i64 0, .int .i64 0, .int .i64 0, .int .i64 0, .int .i64 0, .int .i64 0, .int .i64 0, .string ⟨#[]⟩, .int .i64 0, .int .i64 0, .int .i64 0, .int .i64 0, .int .i64 0] 123 := by rw [hW2, hW0]; exact (j4.alloc _).alloc _
  have hst := countingR_stops 2 (by omega) a m cap xs known W0 W2 hW2 (hL.below hB0)
  clear j1 j2 j3 j4 hW0 hW2 hB0
  rw [hsz0] at hst
  clear hsz0
  have hSlt : ∀ k, (k = w.heap.size + 1 + 1 + 1 + 1 ∨ k = w.heap.size + 1 + 1 + 1 + 1 + 1 ∨ (xs ≠ [] ∧ ∃ off, a = some ⟨k, off, none⟩)) → k < W2.heap.size := by
    rintro k (rfl | rfl | ⟨hne, off, ha⟩)
    · omega
    · omega
    · obtain ⟨x, xs', rfl⟩ := List.exists_cons_of_ne_nil hne
      obtain ⟨b, off', ha', hlt, _⟩ := hL.at_ 0 x rfl
      rw [ha] at ha'; cases ha'; omega
  refine wpIn_rangeFunc_ownH rfl (by omega) (gf := 133) rfl trivial (enters_of Tryz.func133 (by kernel_rfl) rfl) hst (fun h k => KpOn.trans h k) ?hKb (Below.refl _ _) (fun _ => rfl)
    (IP w goods hour W2)
    (fun _ _ _ => False)
    ?hI (fun _ _ _ _ _ hs _ _ => hs) ⟨k1, k2, k3, k4, hB2, Nat.le_refl _⟩
    (fun x a' W => ∃ Bx, W2.heap.size ≤ Bx ∧ Blk W Bx #[.int .i64 x.id, .int .i64 x.known, .int .i64 x.from_, .string x.goods, .int .i64 x.finder.num, .int .i64 x.finder.den, .int .i64 x.cart, .int .i64 x.store, .int .i64 x.of_] 26 ∧ a' = { tmps := #[.slice a m cap, .string goods, .int .i64 hour, .int .i64 known, undef, .pointer (some ⟨w.heap.size, 0, none⟩), .pointer (some ⟨w.heap.size + 1, 0, none⟩), undef, .pointer (some ⟨w.heap.size + 1 + 1, 0, none⟩), .bool false, .pointer (some ⟨w.heap.size + 1 + 1 + 1, 0, none⟩), .pointer (some ⟨Bx, 0, none⟩), undef, .slice a m cap, .int .i64 known, .func (.func 133) #[] #[.pointer (some ⟨w.heap.size + 1 + 1 + 1 + 1, 0, none⟩), .pointer (some ⟨w.heap.size + 1 + 1 + 1 + 1 + 1, 0, none⟩)], aR x, undef, undef, undef, undef, undef, undef, undef, undef, undef, undef, undef, undef, undef, undef, undef, undef, undef, undef, undef, undef, undef, undef, undef, undef, undef, undef, undef, undef, undef, undef, undef, undef, undef, undef, undef, undef, undef, undef, undef, undef, undef, undef, undef, undef, undef, undef, undef, undef], defers := [] })
    (fun x a' s A B row hs hg hr => hs.imp fun Bx h => ⟨h.1, h.2.1.own hg hr, h.2.2⟩) ?assign ?body ?done ?stop
  case hKb =>
    intro W l o o' hl ho hc hk
    refine ⟨by simp, fun k hS => World.putObj_heap_other (fun e => ?_)⟩
    have := hSlt k hS
    omega
  case hI =>
    rintro pre A B row ⟨h1, h2, h3, h4, hB, hs⟩ hg hr
    exact ⟨h1.own hg hr, h2.own hg hr, h3.own hg hr, h4.own hg hr, hB.grown hg hB.size (fun k e => by have := (hr k e).1; omega), Nat.le_trans hs hg.size⟩
  case assign =>
    rintro l pre x W K ⟨h1, h2, h3, h4, hB, hs⟩ hK
    gi_wp2
    exact hK _ _ ((KeepsOthers.alloc _ _).from _) ⟨by simp, fun k hS => Below.heap_alloc _ _ _ (by have := hSlt k hS; omega)⟩ ⟨h1.alloc _, h2.alloc _, h3.alloc _, h4.alloc _, hB.alloc hB.size _, by simp; omega⟩ ⟨W.heap.size, hs, Blk.new _ _ _, rfl⟩
  case body =>
    rintro l pre x a' W hl ⟨r, hr⟩ ⟨h1, h2, h3, h4, hB, hs⟩ ⟨Bx, hBx, bX, rfl⟩ hlt
    obtain ⟨b, hb⟩ : ∃ b, b = pre.foldl (bestStep goods hour) (zeroRate, zeroRate) := ⟨_, rfl⟩
    rw [← hb] at h4
    have c1 := h1.cell
    have c2 := h2.cell
    have c4 := h4.cell
    have f4 := h4.frozen
    have cX := bX.cell
    have Hb := Lib.hid hb; clear hb
    clear hst k1 k2 k3 k4
    have hSne : ∀ k, (k = w.heap.size + 1 + 1 + 1 + 1 ∨ k = w.heap.size + 1 + 1 + 1 + 1 + 1 ∨ (xs ≠ [] ∧ ∃ off, a = some ⟨k, off, none⟩)) → k ≠ w.heap.size + 1 + 1 + 1 := by
      rintro k (rfl | rfl | ⟨hne, off, ha⟩)
      · omega
      · omega
      · obtain ⟨x, xs', rfl⟩ := List.exists_cons_of_ne_nil hne
        obtain ⟨b, off', ha', hlt, _⟩ := hL.at_ 0 x rfl
        rw [ha] at ha'; cases ha'; omega
    have fin1 : ∀ nq o (A : Act) b', setAll (cR b.1 ++ cR b.2).toArray o (cR x) = (cR (bestStep goods hour b x).1 ++ cR (bestStep goods hour b x).2).toArray → b' = (W.drewN nq).setCells (w.heap.size + 1 + 1 + 1) o (cR x) →
        ownPostG W2.heap.size (KpOn fun k => k = w.heap.size + 1 + 1 + 1 + 1 ∨ k = w.heap.size + 1 + 1 + 1 + 1 + 1 ∨ (xs ≠ [] ∧ ∃ off, a = some ⟨k, off, none⟩)) (IP w goods hour W2) (fun _ _ _ => False) (pre ++ [x]) W .normal A b' := by
      rintro nq o A b' hset rfl
      have hkd : KeepsOthers W (W.drewN nq) := ⟨Nat.le_refl _, fun _ _ h _ => h⟩
      refine ⟨(hkd.trans (keepsOthers_setCells _ _ _ _)).from _, ⟨by rw [size_setCells]; exact Nat.le_refl _, fun k hS => setCells_heap _ _ _ _ _ (hSne k hS)⟩, ?_⟩
      have hfold : (pre ++ [x]).foldl (bestStep goods hour) (zeroRate, zeroRate) = bestStep goods hour b x := by rw [List.foldl_append, ← Hb.out]; rfl
      unfold IP
      rw [hfold, ← hset]
      have h1' : Blk (W.drewN nq) w.heap.size _ _ := h1
      have h2' : Blk (W.drewN nq) (w.heap.size + 1) _ _ := h2
      have h3' : Blk (W.drewN nq) (w.heap.size + 1 + 1) _ _ := h3
      have h4' : Blk (W.drewN nq) (w.heap.size + 1 + 1 + 1) _ _ := h4
      have hB' : Below w.heap.size w (W.drewN nq) := ⟨hB.os, hB.tape, hB.output, hB.size, hB.block⟩
      exact ⟨h1'.setCells_other (by omega) _ _, h2'.setCells_other (by omega) _ _, h3'.setCells_other (by omega) _ _, h4'.setCells _ _, below_setCells hB' (by omega) _ _, by rw [size_setCells]; exact hs⟩
    have fin0 : ∀ nq (A : Act), bestStep goods hour b x = b →
        ownPostG W2.heap.size (KpOn fun k => k = w.heap.size + 1 + 1 + 1 + 1 ∨ k = w.heap.size + 1 + 1 + 1 + 1 + 1 ∨ (xs ≠ [] ∧ ∃ off, a = some ⟨k, off, none⟩)) (IP w goods hour W2) (fun _ _ _ => False) (pre ++ [x]) W .normal A (W.drewN nq) := by
      intro nq A hst
      have hkd : KeepsOthers W (W.drewN nq) := ⟨Nat.le_refl _, fun _ _ h _ => h⟩
      refine ⟨hkd.from _, KpOn.refl _ _, ?_⟩
      have hfold : (pre ++ [x]).foldl (bestStep goods hour) (zeroRate, zeroRate) = b := by rw [List.foldl_append, ← Hb.out]; exact hst
      unfold IP
      rw [hfold]
      exact ⟨h1, h2, h3, h4, ⟨hB.os, hB.tape, hB.output, hB.size, hB.block⟩, hs⟩
    clear hs hB h1 h2 h3 bX hr hl hBx hlt hSlt hsz2 hB2 hw91
    by_cases hg : x.goods = goods
    · have e1 : (x.goods.toList == goods.toList) = true := by rw [toList_beq]; simp [hg]
      have Hg := Lib.hid hg; clear hg
      by_cases q1 : x.from_ ≤ hour
      · by_cases q2 : (b.1.id == 0) = true
        · have H2 : Hid (b.1.id = 0) := Lib.hid (by simpa using q2)
          gi_wp2
          refine wpInRound_region_quiet_lit (by kernel_rfl) (by kernel_rfl) ?_
          repeat (go_big_quiet_step (fail))
          refine wpQuiet_nil ?_
          intro _ hw'
          obtain ⟨nq, hw''⟩ := hw'
          subst hw''
          gi_wp2
          exact fin1 nq 0 _ _ (by rw [show bestStep goods hour b x = (x, b.2) by simp [bestStep, Hg.out, q1, H2.out]]; exact setAll_lo _ _ _) rfl
        · have q2' : (b.1.id == 0) = false := by simpa using q2
          have H2 : Hid (b.1.id ≠ 0) := Lib.hid (by simpa using q2)
          clear q2
          by_cases q3 : b.1.from_ ≤ x.from_
          · gi_wp2
            refine wpInRound_region_quiet_lit (by kernel_rfl) (by kernel_rfl) ?_
            repeat (go_big_quiet_step (fail))
            refine wpQuiet_nil ?_
            intro _ hw'
            obtain ⟨nq, hw''⟩ := hw'
            subst hw''
            gi_wp2
            exact fin1 nq 0 _ _ (by rw [show bestStep goods hour b x = (x, b.2) by simp [bestStep, Hg.out, q1, q3]]; exact setAll_lo _ _ _) rfl
          · have q3' : decide (b.1.from_ ≤ x.from_) = false := by simpa using q3
            gi_wp2
            refine wpInRound_region_quiet_lit (by kernel_rfl) (by kernel_rfl) ?_
            repeat (go_big_quiet_step (fail))
            refine wpQuiet_nil ?_
            intro _ hw'
            obtain ⟨nq, hw''⟩ := hw'
            subst hw''
            gi_wp2
            exact fin0 nq _ (by simp only [bestStep, Hg.out, if_true]; rw [if_neg (by rintro ⟨_, h | h⟩; exact H2.out h; omega)])
      · have q1' : decide (x.from_ ≤ hour) = false := by simpa using q1
        gi_wp2
        refine wpInRound_region_quiet_lit (by kernel_rfl) (by kernel_rfl) ?_
        repeat (go_big_quiet_step (fail))
        refine wpQuiet_nil ?_
        intro _ hw'
        obtain ⟨nq, hw''⟩ := hw'
        subst hw''
        gi_wp2
        exact fin0 nq _ (by simp only [bestStep, Hg.out, if_true]; rw [if_neg (by rintro ⟨h, _⟩; omega)])
    · have e1 : (x.goods.toList == goods.toList) = false := by rw [toList_beq]; simp [hg]
      have Hg := Lib.hid hg; clear hg
      by_cases hz : x.goods = ⟨#[]⟩
      · have e3 : x.goods.toList = [] := by rw [hz, ByteArray.toList_eq]
        have e2 : x.goods.toList.isEmpty = true := by rw [e3]; rfl
        have Hz := Lib.hid hz; clear hz e3
        by_cases q1 : x.from_ ≤ hour
        · by_cases q2 : (b.2.id == 0) = true
          · have H2 : Hid (b.2.id = 0) := Lib.hid (by simpa using q2)
            gi_wp2
            refine wpInRound_region_quiet_lit (by kernel_rfl) (by kernel_rfl) ?_
            repeat (go_big_quiet_step (fail))
            refine wpQuiet_nil ?_
            intro _ hw'
            obtain ⟨nq, hw''⟩ := hw'
            subst hw''
            gi_wp2
            exact fin1 nq 9 _ _ (by rw [show bestStep goods hour b x = (b.1, x) by simp only [bestStep]; rw [if_neg Hg.out, if_pos ⟨Hz.out, by omega, .inl H2.out⟩]]; exact setAll_hi _ _ _) rfl
          · have q2' : (b.2.id == 0) = false := by simpa using q2
            have H2 : Hid (b.2.id ≠ 0) := Lib.hid (by simpa using q2)
            clear q2
            by_cases q3 : b.2.from_ ≤ x.from_
            · gi_wp2
              refine wpInRound_region_quiet_lit (by kernel_rfl) (by kernel_rfl) ?_
              repeat (go_big_quiet_step (fail))
              refine wpQuiet_nil ?_
              intro _ hw'
              obtain ⟨nq, hw''⟩ := hw'
              subst hw''
              gi_wp2
              exact fin1 nq 9 _ _ (by rw [show bestStep goods hour b x = (b.1, x) by simp only [bestStep]; rw [if_neg Hg.out, if_pos ⟨Hz.out, by omega, .inr (by omega)⟩]]; exact setAll_hi _ _ _) rfl
            · have q3' : decide (b.2.from_ ≤ x.from_) = false := by simpa using q3
              gi_wp2
              refine wpInRound_region_quiet_lit (by kernel_rfl) (by kernel_rfl) ?_
              repeat (go_big_quiet_step (fail))
              refine wpQuiet_nil ?_
              intro _ hw'
              obtain ⟨nq, hw''⟩ := hw'
              subst hw''
              gi_wp2
              exact fin0 nq _ (by simp only [bestStep]; rw [if_neg Hg.out, if_neg (by rintro ⟨_, _, h | h⟩; exact H2.out h; omega)])
        · have q1' : decide (x.from_ ≤ hour) = false := by simpa using q1
          gi_wp2
          refine wpInRound_region_quiet_lit (by kernel_rfl) (by kernel_rfl) ?_
          repeat (go_big_quiet_step (fail))
          refine wpQuiet_nil ?_
          intro _ hw'
          obtain ⟨nq, hw''⟩ := hw'
          subst hw''
          gi_wp2
          exact fin0 nq _ (by simp only [bestStep]; rw [if_neg Hg.out, if_neg (by rintro ⟨_, h, _⟩; omega)])
      · have e3 : x.goods.toList ≠ [] := fun h => hz (ByteArray.ext (by rw [ByteArray.toList_eq] at h; simpa using h))
        have e2 : x.goods.toList.isEmpty = false := by simpa using e3
        have Hz := Lib.hid hz; clear hz e3
        gi_wp2
        refine wpInRound_region_quiet_lit (by kernel_rfl) (by kernel_rfl) ?_
        repeat (go_big_quiet_step (fail))
        refine wpQuiet_nil ?_
        intro _ hw'
        obtain ⟨nq, hw''⟩ := hw'
        subst hw''
        gi_wp2
        exact fin0 nq _ (by simp only [bestStep]; rw [if_neg Hg.out, if_neg (by rintro ⟨h, _⟩; exact Hz.out h)])
  case done =>
    rintro D ys W hD rfl ⟨h1, h2, h3, h4, hB, hs⟩ hK
    obtain ⟨b, hb⟩ : ∃ b, b = bestOf xs goods hour known := ⟨_, rfl⟩
    change Blk W (w.heap.size + 1 + 1 + 1) (cR (bestOf xs goods hour known).1 ++ cR (bestOf xs goods hour known).2).toArray _ at h4
    have hf : inForce xs goods hour known = if 0 < b.1.id then (b.1, true) else (b.2, decide (0 < b.2.id)) := by rw [hb]; rfl
    rw [← hb] at h4
    have c3 := h3.cell
    have f3 := h3.frozen
    have c4 := h4.cell
    have Hf := Lib.hid hf; clear hf hb
    have Hst := Lib.hid hst; clear hst
    have hret : ∀ (W1 : World) (r : Rate) (ok : Bool) (tm : Array Value), Blk W1 (w.heap.size + 1 + 1) (cR r).toArray 26 → W1.heap[D]? = some (.deferred (some [])) → Below w.heap.size w W1 → inForce xs goods hour known = (r, ok) →
        tm.getD 8 undef = .pointer (some ⟨w.heap.size + 1 + 1, 0, none⟩) → tm.getD 9 undef = .bool ok →
        bodyPostM Fence.wide 3 Tryz.prog Tryz.f55 (Gives w (.tuple #[aR (inForce xs goods hour known).1, .bool (inForce xs goods hour known).2])) .ret { tmps := tm, defers := [{ target := .collected D, args := #[] }] } W1 := by
      intro W1 r ok tm hb1 hK1 hB1 hfr h8 h9
      refine ⟨by simp, .inl ⟨_, _, rfl, run_takeDeferred hK1, ?_⟩⟩
      refine ⟨_, results_cell_tmp rfl tm _ (w.heap.size + 1 + 1) 26 (cR r) _ h8 (hb1.putObj _ (by omega)) Tryz.underlying26 rfl (by kernel_rfl), ?_⟩
      rw [h9, hfr]
      exact ⟨rfl, hB1.trans (belowK_b (w := w) (Nat.le_refl _) W1 D _ _ (by omega) hK1 rfl rfl)⟩
    clear Hst h1 h2 hSlt k1 k2 k3 k4
    have hfin : ∀ (W1 : World) (r : Rate) (ok : Bool) (tm : Array Value), (W1 = W.setCells (w.heap.size + 1 + 1) 0 (cR r) ∨ W1 = (W.setCells (w.heap.size + 1 + 1) 0 (cR r)).drew) → inForce xs goods hour known = (r, ok) →
        tm.getD 8 undef = .pointer (some ⟨w.heap.size + 1 + 1, 0, none⟩) → tm.getD 9 undef = .bool ok →
        bodyPostM Fence.wide 3 Tryz.prog Tryz.f55 (Gives w (.tuple #[aR (inForce xs goods hour known).1, .bool (inForce xs goods hour known).2])) .ret { tmps := tm, defers := [{ target := .collected D, args := #[] }] } W1 := by
      have hblk : ∀ r, Blk (W.setCells (w.heap.size + 1 + 1) 0 (cR r)) (w.heap.size + 1 + 1) (cR r).toArray 26 := fun r => by
        rw [← setAll_zero]
        exact h3.setCells 0 _
      have hK2 : ∀ r, (W.setCells (w.heap.size + 1 + 1) 0 (cR r)).heap[D]? = some (.deferred (some [])) := fun r => (setCells_heap W (w.heap.size + 1 + 1) 0 (cR r) D (by omega)).trans hK
      have hB2 : ∀ r, Below w.heap.size w (W.setCells (w.heap.size + 1 + 1) 0 (cR r)) := fun r => below_setCells hB (by omega) _ _
      have hdr : ∀ X : World, X.drew.heap = X.heap := fun _ => rfl
      rintro W1 r ok tm (rfl | rfl) hfr h8 h9
      · exact hret _ r ok tm (hblk r) (hK2 r) (hB2 r) hfr h8 h9
      · exact hret _ r ok tm (hblk r).drew (by rw [hdr]; exact hK2 r) (hB2 r).drew hfr h8 h9
    have hfin1 := fun W1 r ok tm h => hfin W1 r ok tm (.inl h)
    have hfin2 := fun W1 r ok tm h => hfin W1 r ok tm (.inr h)
    clear hfin
    by_cases hp : 0 < b.1.id
    · gi_wp2
      refine hfin1 _ b.1 true _ rfl (by rw [Hf.out, if_pos (by omega)]) rfl rfl
    · have hp' : decide (0 < b.1.id) = false := by simpa using hp
      gi_wp2
      refine wpIn_wide.2 ?_
      go_region
      gi_wp2
      refine hfin2 _ b.2 (decide (0 < b.2.id)) _ rfl (by rw [Hf.out, if_neg (by omega)]) rfl rfl
  case stop =>
    rintro D c pre W _ _ h _
    exact h.elim

end Go.Proofs.YtollegoajlfdiaaGreat

/-
  Walk: the hours at which the rate in force changes.
-/
namespace Go.Proofs.YtollegoajlfdiaaGreat
open Go.RowKit Lg Go.Sort Go.Shelf

set_option maxRecDepth 100000 in
set_option maxHeartbeats 1600000 in
theorem turns_any (a : Option Addr) (n cap : Nat) (xs : List Rate) (goods : ByteArray) (known : Int) (w : World) (hL : Lst w 9 cR a n cap xs) :
    Calls Tryz.prog 22 #[.slice a n cap, .string goods, .int .i64 known] w (GivesI w (turnsOf xs goods known)) := by
  obtain ⟨c, hc⟩ : ∃ c, c = checkRates xs := ⟨_, rfl⟩
  have hcr := checkRates_any a n cap xs w hL
  rw [← hc] at hcr
  have hlen9 : c.2 = 0 → n ≤ 100 := fun h => by have := checkRates_len xs (hc ▸ h); rw [hL.len] at this; exact this
  have Htv : Hid (turnsOf xs goods known = if c.2 = 0 then ((startsOf xs).foldl (turnStep xs goods known) (0, [])).2 else []) := Lib.hid (by rw [hc]; rfl)
  clear hc
  obtain ⟨c1, c2⟩ := c
  obtain ⟨i0, hi0, hz0, hz1, hz2⟩ := info_parts infoI
  go_enter Tryz.func22, Tryz.ntmps22
  go_wp2_with (fail)
  refine hcr.mono ?_
  clear hcr
  rintro e w1 ⟨rfl, hB1⟩
  by_cases hv0 : c2 = 0
  · have hn := hlen9 hv0
    subst hv0
    have htv := Htv.out
    simp only [if_true] at htv
    have Htv2 := Lib.hid htv; clear htv
    go_wp2_with (fail)
    refine (starts_any a n cap xs w1 (by omega) (hL.below hB1)).mono ?_
    rintro e w2 ⟨v, rfl, ho, hB2⟩
    have hsl := startsOf_len xs
    rw [hL.len] at hsl
    obtain ⟨hs, hhs⟩ : ∃ hs, hs = startsOf xs := ⟨_, rfl⟩
    rw [← hhs] at ho hsl
    rw [← hhs] at Htv2
    have Hhs := Lib.hid hhs; clear hhs
    rw [← flat_int] at ho
    obtain ⟨a2, cap2, rfl, hpl, hL2⟩ := Lst.of_owns (k := 1) (enc := cI) (fun _ => rfl) Nat.zero_lt_one ho rfl
    have hm2 : cap2 ≤ 9223372036854775807 := by have := hL2.max; unfold maxLen at this; omega
    have hle2 := hL2.le
    have hb2 := hB1.trans (hB2.mono hB1.size)
    clear ho
    go_wp2
    go_loopw [25, 9, 10] (fun i la o wr => ∃ k : Nat, k ≤ hs.length ∧ i = .int .i64 k ∧ la = .int .i64 ((hs.take k).foldl (turnStep xs goods known) (0, [])).1 ∧
      wr.ownsRow w2.heap.size 3 1 o ((hs.take k).foldl (turnStep xs goods known) (0, [])).2.length (((hs.take k).foldl (turnStep xs goods known) (0, [])).2.map (Value.int .i64)) ∧ RowKit.Below w2.heap.size w2 wr) (fun i _ _ _ => hs.length - (intOf i).toNat)
    case atStart => exact ⟨0, Nat.zero_le _, rfl, rfl, ⟨by simp, .inl ⟨rfl, rfl⟩⟩, Below.refl _ _⟩
    case round =>
      obtain ⟨k, hk, rfl, rfl, ho, hB⟩ := hrel
      by_cases hlt : k < hs.length
      · obtain ⟨h, hx⟩ : ∃ h, hs[k]? = some h := ⟨hs[k], by simp⟩
        obtain ⟨b, off, rfl, hb, hr⟩ := hL2.at_ k h hx
        have hr' := rangeAt_below hB hb hr 0 _ rfl
        simp only [Nat.mul_one, Nat.add_zero] at hr'
        have htake : (hs.take (k + 1)).foldl (turnStep xs goods known) (0, []) = turnStep xs goods known ((hs.take k).foldl (turnStep xs goods known) (0, [])) h := by
          obtain ⟨h1, h2⟩ := List.getElem?_eq_some_iff.1 hx
          rw [List.take_succ_eq_append_getElem h1, h2, List.foldl_append]; rfl
        have hll := turnFold_len xs goods known (hs.take k)
        have hll2 : (hs.take k).length ≤ k := List.length_take_le _ _
        have Hx := Lib.hid hx; clear hx
        generalize (hs.take k).foldl (turnStep xs goods known) (0, []) = s at *
        obtain ⟨s1, s2⟩ := s
        obtain ⟨f, hf⟩ : ∃ f, f = inForce xs goods h known := ⟨_, rfl⟩
        have hfr := inForce_any a n cap xs goods h known wr (hL.below (hb2.trans (hB.mono hb2.size)))
        rw [← hf] at hfr
        have htake2 : (hs.take (k + 1)).foldl (turnStep xs goods known) (0, []) = (f.1.id, if f.1.id = s1 then s2 else s2 ++ [h]) := by rw [htake, hf]; rfl
        have Ht := Lib.hid htake2; clear htake htake2 hf
        obtain ⟨f1, f2⟩ := f
        go_wp2_with (fail)
        refine hfr.mono ?_
        clear hfr
        rintro e w3 ⟨rfl, hB3⟩
        have hb3 : RowKit.Below w2.heap.size w2 w3 := hB.trans (hB3.mono hB.size)
        have ho3 := ho.kept (grownBy_of_below hB3) (Option.eq_none_or_eq_some _ |>.elim .inl fun ⟨_, h⟩ => .inr (by rw [h]; simp))
        clear hr'
        by_cases h0 : f1.id = s1
        · have g0 : (f1.id != s1) = false := by simpa using h0
          have ht := Ht.out
          rw [if_pos h0] at ht
          have Ht2 := Lib.hid ht; clear ht h0
          go_wp2_with (fail)
          go_roundw
          case rel =>
            refine ⟨k + 1, by omega, by go_num, by rw [Ht2.out], ?_, hb3.alloc hb3.size _⟩
            rw [Ht2.out]
            exact ho3.alloc _
          case measure => simp [intOf]; omega
        · have g0 : (f1.id != s1) = true := by simpa using h0
          have ht := Ht.out
          rw [if_neg h0] at ht
          have Ht2 := Lib.hid ht; clear ht h0
          go_wp2_with (at_builtin; refine wpList_append_lies _ rfl _ _ _ rfl w2.heap.size 3 i0 _ 1 8 Tryz.underlying35 hi0 hz0 hz1 hz2 rfl (by omega) _ s2.length (s2.map (Value.int .i64)) rfl ((ho3.alloc _).alloc _) ⟨w3.heap.size + 1, 0, none⟩ 1 1 [.int .i64 h] rfl rfl (World.news_of_block (cs := #[.int .i64 h]) (t := 3) (fr := (0, 0)) (heap_alloc2_new w3 _ _)) (by simp [Value.oneCell']) (by omega) (by unfold maxLen; omega) (by omega) (by have := hb3.size; simp; omega) _ rfl ?_; intro g cap1 w4 hown hgrow hat hlt1; have cX := (((Blk.new w3 26 (cR f1).toArray).alloc _).kept hgrow (fun e => Nat.lt_irrefl _ (ho3.lt _ e.symm).2)).cell)
          go_roundw
          case rel =>
            refine ⟨k + 1, by omega, by go_num, by rw [Ht2.out], ?_, below_of_grown ((hb3.alloc hb3.size _).alloc (by have := hb3.size; simp; omega) _) (Nat.le_refl _) hgrow (own_ge' ho)⟩
            rw [Ht2.out, List.length_append, List.map_append]
            exact hown
          case measure => simp [intOf]; omega
      · obtain rfl : k = hs.length := by omega
        rw [List.take_of_length_le (Nat.le_refl _)] at ho
        go_wp2
        go_ret
        exact ⟨_, rfl, by rw [Htv2.out]; exact ownsRow_base_a ho hb2.size, hb2.trans (hB.mono hb2.size)⟩
  · have g0 : (c2 != 0) = true := by simpa using hv0
    have Hv0 := Lib.hid hv0; clear hv0
    go_wp2_with (fail)
    go_ret
    exact ⟨_, rfl, by rw [Htv.out, if_neg Hv0.out]; exact ⟨rfl, .inl ⟨rfl, rfl⟩⟩, hB1⟩

end Go.Proofs.YtollegoajlfdiaaGreat

/-
  Walk: between which hours a record more changes the rate in force.
-/
namespace Go.Proofs.YtollegoajlfdiaaGreat
open Go.RowKit Lg Go.Sort Go.Shelf

theorem results_tmp4 {fn : Func} {t u v x : Tmp} (h : fn.results = #[.tmp t, .tmp u, .tmp v, .tmp x]) (tmps : Array Value) (P : Program) (w : World) :
    (results fn tmps).run P w = .ok (.tuple #[tmps.getD t undef, tmps.getD u undef, tmps.getD v undef, tmps.getD x undef]) w := by
  simp [results, h]

set_option maxRecDepth 100000 in
set_option maxHeartbeats 1600000 in
theorem touched_any (a : Option Addr) (n cap : Nat) (xs : List Rate) (x : Rate) (goods : ByteArray) (w : World) (hA : Plain a) (hL : Lst w 9 cR a n cap xs) :
    Calls Tryz.prog 19 #[.slice a n cap, aR x, .string goods] w (Gives w (.tuple #[.int .i64 (touchedOf xs x goods).1.1, .int .i64 (touchedOf xs x goods).1.2.1, .bool (touchedOf xs x goods).1.2.2, .int .i64 (touchedOf xs x goods).2])) := by
  obtain ⟨r, hr⟩ : ∃ r, r = touchedOf xs x goods := ⟨_, rfl⟩
  rw [← hr]
  obtain ⟨m, hmm⟩ : ∃ m, m = appendRate xs x := ⟨_, rfl⟩
  have hB1 : RowKit.Below w.heap.size w (w.alloc (.cells #[.int .i64 x.id, .int .i64 x.known, .int .i64 x.from_, .string x.goods, .int .i64 x.finder.num, .int .i64 x.finder.den, .int .i64 x.cart, .int .i64 x.store, .int .i64 x.of_] 26)) := (Below.refl _ w).alloc (Nat.le_refl _) _
  have har := appendRate_any a n cap xs x _ hA (hL.below hB1)
  rw [← hmm] at har
  have hbd : m.2 = 0 → (∀ t ∈ startsOf m.1, 0 ≤ t ∧ t ≤ 1000000) ∧ m.1.length ≤ 101 := fun h => by
    subst hmm
    refine ⟨starts_bound h, ?_⟩
    obtain ⟨h1, h2, h3⟩ := appendRate_ok h
    rw [h1, List.length_append]
    have := checkRates_len xs h2
    simp; omega
  have Hr : Hid (r = if m.2 = 0 then (touchGo xs m.1 goods x.known (startsOf m.1) (0, 0, false), 0) else ((0, 0, false), m.2)) := Lib.hid (by rw [hr, hmm]; rfl)
  clear hr hmm
  obtain ⟨m1, m2⟩ := m
  go_enter Tryz.func19, Tryz.ntmps19
  go_wp2_with (fail)
  refine har.mono ?_
  clear har
  rintro e w1 ⟨v1, rfl, ho1, hB2⟩
  have k1 : Blk w1 w.heap.size #[.int .i64 x.id, .int .i64 x.known, .int .i64 x.from_, .string x.goods, .int .i64 x.finder.num, .int .i64 x.finder.den, .int .i64 x.cart, .int .i64 x.store, .int .i64 x.of_] 26 := (Blk.new w _ _).below' hB2
  have hb1 : RowKit.Below w.heap.size w w1 := hB1.trans (hB2.mono hB1.size)
  by_cases hv0 : m2 = 0
  · obtain ⟨hbd1, hbd2⟩ := hbd hv0
    subst hv0
    have hrr := Hr.out
    simp only [if_true] at hrr
    have Hr2 := Lib.hid hrr; clear hrr Hr hbd
    obtain ⟨a1, cap1, rfl, hpl1, hL1⟩ := Lst.of_owns (k := 9) (enc := cR) (fun _ => rfl) (by decide) ho1 rfl
    clear ho1
    have hm1 : cap1 ≤ 9223372036854775807 := by have := hL1.max; unfold maxLen at this; omega
    have hle1 := hL1.le
    go_wp2_with (fail)
    refine (starts_any a1 m1.length cap1 m1 w1 (by omega) hL1).mono ?_
    rintro e w2 ⟨v, rfl, ho, hB3⟩
    have hsl := startsOf_len m1
    obtain ⟨hs, hhs⟩ : ∃ hs, hs = startsOf m1 := ⟨_, rfl⟩
    rw [← hhs] at ho hsl hbd1
    rw [← hhs] at Hr2
    clear hhs
    rw [← flat_int] at ho
    obtain ⟨a2, cap2, rfl, hpl, hL2⟩ := Lst.of_owns (k := 1) (enc := cI) (fun _ => rfl) Nat.zero_lt_one ho rfl
    have hm2 : cap2 ≤ 9223372036854775807 := by have := hL2.max; unfold maxLen at this; omega
    have hle2 := hL2.le
    have hb2 := hb1.trans (hB3.mono hb1.size)
    have k2 := k1.below' hB3
    have hlt2 := k2.lt
    have hLm := hL1.below hB3
    clear ho
    go_wp2
    go_loopw [31, 6, 7, 8] (fun i fr un okv wr => ∃ k : Nat, ∃ s : Int × Int × Bool, k ≤ hs.length ∧ i = .int .i64 k ∧ fr = .int .i64 s.1 ∧ un = .int .i64 s.2.1 ∧ okv = .bool s.2.2 ∧
      r.1 = touchGo xs m1 goods x.known (hs.drop k) s ∧ RowKit.Below w2.heap.size w2 wr) (fun i _ _ _ _ => hs.length - (intOf i).toNat)
    case atStart => exact ⟨0, (0, 0, false), Nat.zero_le _, rfl, rfl, rfl, rfl, by rw [Hr2.out]; rfl, Below.refl _ _⟩
    case round =>
      obtain ⟨k, ⟨s1, s2, s3⟩, hk, rfl, rfl, rfl, rfl, hgo, hB⟩ := hrel
      by_cases hlt : k < hs.length
      · obtain ⟨h, hx⟩ : ∃ h, hs[k]? = some h := ⟨hs[k], by simp⟩
        obtain ⟨b, off, rfl, hb, hr⟩ := hL2.at_ k h hx
        have hr' := rangeAt_below hB hb hr 0 _ rfl
        simp only [Nat.mul_one, Nat.add_zero] at hr'
        have hdrop : hs.drop k = h :: hs.drop (k + 1) := by
          obtain ⟨h1, h2⟩ := List.getElem?_eq_some_iff.1 hx
          rw [← h2, List.drop_eq_getElem_cons h1]
        rw [hdrop] at hgo
        obtain ⟨f, hf⟩ : ∃ f, f = inForce xs goods h x.known := ⟨_, rfl⟩
        obtain ⟨g, hg⟩ : ∃ g, g = inForce m1 goods h x.known := ⟨_, rfl⟩
        have hgo2 : r.1 = if f.1.id = g.1.id then touchGo xs m1 goods x.known (hs.drop (k + 1)) (s1, s2, s3) else touchGo xs m1 goods x.known (hs.drop (k + 1)) (if s3 = true then s1 else h, (match hs.drop (k + 1) with | [] => 1000000 | h2 :: _ => h2 - 1), true) := by
          rw [hgo, hf, hg]; rfl
        have hfr := inForce_any a n cap xs goods h x.known wr (hL.below (hb2.trans (hB.mono hb2.size)))
        have hgr := fun W hW => inForce_any a1 m1.length cap1 m1 goods h x.known W hW
        rw [← hf] at hfr
        rw [← hg] at hgr
        have Hg := Lib.hid hgo2; clear hgo hgo2 hf hg hdrop
        have Hx := Lib.hid hx; clear hx
        obtain ⟨f1, f2⟩ := f
        obtain ⟨g1, g2⟩ := g
        have kr := k2.below' hB
        have cr := kr.cell
        go_wp2_with (fail)
        refine hfr.mono ?_
        clear hfr cr
        rintro e w3 ⟨rfl, hB4⟩
        have hb3 : RowKit.Below w2.heap.size w2 w3 := hB.trans (hB4.mono hB.size)
        have k3 := k2.below' hb3
        have c3 : ∀ (cs : Array Value) (j : Nat), (w3.alloc (.cells cs 26)).cell? ⟨w.heap.size, j, none⟩ = #[.int .i64 x.id, .int .i64 x.known, .int .i64 x.from_, .string x.goods, .int .i64 x.finder.num, .int .i64 x.finder.den, .int .i64 x.cart, .int .i64 x.store, .int .i64 x.of_][j]? := fun cs j => (k3.alloc _).cell j
        have hb3' : RowKit.Below w2.heap.size w2 (w3.alloc (.cells (cR f1).toArray 26)) := hb3.alloc hb3.size _
        have hgr1 := hgr (w3.alloc (.cells (cR f1).toArray 26)) (hLm.below hb3')
        go_wp2_with (fail)
        refine hgr1.mono ?_
        clear hgr hgr1
        rintro e w4 ⟨rfl, hB5⟩
        have hb4 : RowKit.Below w2.heap.size w2 w4 := hb3'.trans (hB5.mono hb3'.size)
        have kf : Blk w4 w3.heap.size (cR f1).toArray 26 := (Blk.new w3 _ _).below' hB5
        have hltf := kf.lt
        have cf := kf.cell
        have hb4' : ∀ o, RowKit.Below w2.heap.size w2 (w4.alloc o) := fun o => hb4.alloc hb4.size o
        by_cases h0 : f1.id = g1.id
        · have g0 : (f1.id == g1.id) = true := by simpa using h0
          have ht := Hg.out
          rw [if_pos h0] at ht
          have Hg2 := Lib.hid ht; clear ht h0
          go_wp2_with (fail)
          go_roundw
          case rel => exact ⟨k + 1, (s1, s2, s3), by omega, by go_num, rfl, rfl, rfl, Hg2.out, hb4' _⟩
          case measure => simp [intOf]; omega
        · have g0 : (f1.id == g1.id) = false := by simpa using h0
          have ht := Hg.out
          rw [if_neg h0] at ht
          clear h0
          by_cases hk1 : k + 1 < hs.length
          · obtain ⟨h2, hx2⟩ : ∃ h2, hs[k + 1]? = some h2 := ⟨hs[k + 1], by simp⟩
            obtain ⟨b', off', ha', hb', hr2⟩ := hL2.at_ (k + 1) h2 hx2
            cases ha'
            have hr2' := rangeAt_below hb4 hb' hr2 0 _ rfl
            simp only [Nat.mul_one, Nat.add_zero] at hr2'
            have hr3 := cell_allocs hr2'
            have hbh := hbd1 h2 (List.mem_of_getElem? hx2)
            have hd2 : hs.drop (k + 1) = h2 :: hs.drop (k + 1 + 1) := by
              obtain ⟨h3, h4⟩ := List.getElem?_eq_some_iff.1 hx2
              rw [← h4, List.drop_eq_getElem_cons h3]
            have ht2 : r.1 = touchGo xs m1 goods x.known (hs.drop (k + 1)) (if s3 = true then s1 else h, h2 - 1, true) := by rw [ht, hd2]
            have Hg2 := Lib.hid ht2
            clear ht ht2 hd2 hr2' hr2 hx2 hbd1
            cases s3 with
            | true =>
              go_wp2_with (fail)
              go_roundw
              case rel => exact ⟨k + 1, (s1, h2 - 1, true), by omega, by go_num, rfl, rfl, rfl, Hg2.out, hb4' _⟩
              case measure => simp [intOf]; omega
            | false =>
              go_wp2_with (fail)
              go_roundw
              case rel => exact ⟨k + 1, (h, h2 - 1, true), by omega, by go_num, rfl, rfl, rfl, Hg2.out, hb4' _⟩
              case measure => simp [intOf]; omega
          · have hd2 : hs.drop (k + 1) = [] := List.drop_of_length_le (by omega)
            have ht2 : r.1 = touchGo xs m1 goods x.known (hs.drop (k + 1)) (if s3 = true then s1 else h, 1000000, true) := by rw [ht, hd2]
            have Hg2 := Lib.hid ht2
            clear ht ht2 hd2 hbd1
            cases s3 with
            | true =>
              go_wp2_with (fail)
              go_roundw
              case rel => exact ⟨k + 1, (s1, 1000000, true), by omega, by go_num, rfl, rfl, rfl, Hg2.out, hb4' _⟩
              case measure => simp [intOf]; omega
            | false =>
              go_wp2_with (fail)
              go_roundw
              case rel => exact ⟨k + 1, (h, 1000000, true), by omega, by go_num, rfl, rfl, rfl, Hg2.out, hb4' _⟩
              case measure => simp [intOf]; omega
      · obtain rfl : k = hs.length := by omega
        rw [List.drop_of_length_le (Nat.le_refl _)] at hgo
        have Hgo := Lib.hid hgo; clear hgo
        go_wp2
        refine bodyPost_ret (results_tmp4 rfl _ _ _) rfl ⟨?_, hb2.trans (hB.mono hb2.size)⟩
        have e2 : r.2 = 0 := by rw [Hr2.out]
        rw [Hgo.out, e2]; rfl
  · have g0 : (m2 != 0) = true := by simpa using hv0
    have Hv0 := Lib.hid hv0; clear hv0
    go_wp2_with (fail)
    refine bodyPost_ret (results_tmp4 rfl _ _ _) rfl ⟨?_, hb1⟩
    rw [Hr.out, if_neg Hv0.out]; rfl

end Go.Proofs.YtollegoajlfdiaaGreat
