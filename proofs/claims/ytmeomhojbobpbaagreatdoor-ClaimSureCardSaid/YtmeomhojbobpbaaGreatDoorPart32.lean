import Derived.Test.YtmeomhojbobpbaaGreatDoorPart29
import Derived.Test.YtmeomhojbobpbaaGreatDoorPart08
import Derived.Test.YtmeomhojbobpbaaGreatDoorPart22
import Derived.Test.YtmeomhojbobpbaaGreatDoorPart27
import Derived.Test.YtmeomhojbobpbaaGreatDoorPart31
/-
  Walk: the deeds of a package that count, with the withdrawals of its claims ((claim.pack).of).
-/
namespace Go.Proofs.YtmeomhojbobpbaaGreatDoor
open Go.RowKit Lg Go.Sort Go.Shelf Go.Maps

attribute [local go_sem] Oper.semAt_some

/-- What is found so far. -/
def stO (lo pa : Int) (pre : List FDeed) : List Int × List Deed := (pre.map Subtype.val).foldl (ofStep lo pa) ([], [])

theorem stO_snoc (lo pa : Int) (pre : List FDeed) (x : FDeed) : stO lo pa (pre ++ [x]) = ofStep lo pa (stO lo pa pre) x.1 := by
  unfold stO
  rw [List.map_append, List.foldl_append]; rfl

theorem stO_len (lo pa : Int) : ∀ (l : List Deed) (st : List Int × List Deed), (l.foldl (ofStep lo pa) st).2.length ≤ st.2.length + l.length := by
  intro l
  induction l with
  | nil => intro st; simp
  | cons x l ih =>
    intro st
    rw [List.foldl_cons]
    have h1 := ih (ofStep lo pa st x)
    have h2 : (ofStep lo pa st x).2.length ≤ st.2.length + 1 := by
      unfold ofStep
      simp only
      (repeat' split) <;> simp
    rw [List.length_cons]; omega

/-- What holds between two rounds. -/
def PO (lo pa ow dl : Int) (w W2 : World) (pre : List FDeed) (W : World) : Prop :=
  ∃ v nm, Blk W w.heap.size #[.int .i64 lo, .int .i64 pa, .int .i64 ow, .int .i64 dl] 110 ∧ Blk W (w.heap.size + 1) #[v] 42 ∧ Blk W (w.heap.size + 1 + 1 + 1) #[.map (some (w.heap.size + 1 + 1))] 192 ∧
    OwnSt (w.heap.size + 1 + 1) nm (fun q => (stO lo pa pre).1.contains q) W ∧ nm ≤ pre.length ∧ W.ownsRow W2.heap.size 36 11 v (stO lo pa pre).2.length ((stO lo pa pre).2.flatMap cD) ∧ RowKit.Below w.heap.size w W ∧ W2.heap.size ≤ W.heap.size

theorem OwnSt.ownK {b n n0 : Nat} {f : Int → Bool} {w w' : World} {row : Option Nat} (h : OwnSt b n f w) (hg : w.grownBy w' row) (hb : b < n0) (hr : ∀ r, row = some r → n0 ≤ r ∧ ∃ o : Obj, w.heap[r]? = some o ∧ o.isCells = false) : OwnSt b n f w' :=
  h.kept hg (fun e => by have := (hr b e.symm).1; omega)

theorem OwnSt.lookK {b n : Nat} {f : Int → Bool} {w : World} (h : OwnSt b n f w) (p : Int) (hw : (Lit.int .i64 p).wf = true) : (Instr.lookup 192 (.map (some b)) (.int .i64 p) false).run Tryz.prog w = .ok (.bool (f p)) w := by
  obtain ⟨D, h1, h2⟩ := h
  obtain ⟨v, ps, hrun, hv⟩ := h1.lookup lawI Tryz.underlying192 (zeroB w) (plainElem_bool Tryz.underlying4 false) (keyOf_int_mk Tryz.underlying3 hw)
  obtain ⟨c, rfl, hc⟩ := plainElem_bool_inv hv
  simp only [Prod.mk.injEq] at hc
  have h3 := h2.2 p
  rw [hc.1] at h3
  simp only [DataW.lit.injEq, Lit.bool.injEq] at h3
  rw [hrun, h3]

theorem OwnSt.addK {b n : Nat} {f : Int → Bool} {w : World} (h : OwnSt b n f w) (p : Int) (hw : (Lit.int .i64 p).wf = true) (hn : n < maxLen) :
    ∃ w', (Instr.mapUpdate 192 (.map (some b)) (.int .i64 p) (.bool true)).run Tryz.prog w = .ok () w' ∧ OwnSt b (n + 1) (fun q => decide (q = p) || f q) w' ∧ w.grownBy w' (some b) := by
  obtain ⟨D, h1, h2⟩ := h
  obtain ⟨w', hrun, r1, r2⟩ := h1.update lawI Tryz.underlying192 hn (keyOf_int_mk Tryz.underlying3 hw) (plainElem_bool Tryz.underlying4 true)
  exact ⟨w', hrun, ⟨_, r1, h2.put p⟩, r2⟩

theorem OwnSt.congrK {b n : Nat} {f g : Int → Bool} {w : World} (h : OwnSt b n f w) (e : ∀ q, f q = g q) : OwnSt b n g w := by
  obtain ⟨D, h1, h2⟩ := h
  exact ⟨D, h1, h2.congr e⟩

theorem wf_id {x : Deed} (h : formedD x = true) : (Lit.int .i64 x.id).wf = true ∧ (Lit.int .i64 x.of_).wf = true := by
  obtain ⟨h1, _, _, _, _, _, _, _, _, h10, _⟩ := formedD_all h
  exact ⟨WalkArith.wf_i64 (by omega), WalkArith.wf_i64 (by omega)⟩

set_option maxRecDepth 100000 in
set_option maxHeartbeats 3200000 in
theorem ofD_any (lo pa ow dl : Int) (a : Option Addr) (m cap : Nat) (xs : List Deed) (known : Int) (w : World) (hL : Lst w 11 cD a m cap xs) (hm : m ≤ 1000) (hf : ∀ x ∈ xs, formedD x = true) :
    Calls Tryz.prog 150 #[aPk lo pa ow dl, .slice a m cap, .int .i64 known] w fun e w' => ∃ v, e = .returned v ∧ w'.ownsRow w.heap.size 36 11 v (ofPack xs lo pa known).length ((ofPack xs lo pa known).flatMap cD) ∧ RowKit.Below w.heap.size w w' := by
  obtain ⟨i0, hi0, hz0, hz1, hz2⟩ := info_parts infoD
  refine (callsIn_wide (n := 3)).1 ?_
  have hw107 : Fence.wide.fn 107 := trivial
  have hmm : ∀ W : World, (Instr.makeMap 192 none).run Tryz.prog W = .ok (.map (some W.heap.size)) (W.alloc (.map #[] 0)) := fun W => run_makeMap _ W
  refine callsIn_of_wp_marks Tryz.func150 rfl trivial ?_ rfl
  simp only [Tryz.ntmps150, List.size_toArray, List.length_cons, List.length_nil, Nat.reduceAdd, Nat.reduceSub, Array.replicate_succ, Array.replicate_zero, List.push_toArray, List.append_toArray, List.nil_append, List.cons_append]
  gi_wp2_with (gi_at_call 107; refine (callsIn_wide.2 (countingD_any _ _ _ _ _)).mono ?_; rintro e w' ⟨rfl, rfl⟩)
  obtain ⟨W0, hW0⟩ : ∃ W0, W0 = (((w.alloc (.cells #[.int .i64 lo, .int .i64 pa, .int .i64 ow, .int .i64 dl] 110)).alloc (.cells #[.slice none 0 0] 42)).alloc (.map #[] 0)).alloc (.cells #[.map (some (w.heap.size + 1 + 1))] 192) := ⟨_, rfl⟩
  rw [← hW0]
  obtain ⟨W2, hW2⟩ : ∃ W2, W2 = (W0.alloc (.cells #[.slice a m cap] 42)).alloc (.cells #[.int .i64 known] 3) := ⟨_, rfl⟩
  rw [← hW2]
  have hsz0 : W0.heap.size = w.heap.size + 1 + 1 + 1 + 1 := by rw [hW0]; simp
  have hsz2 : W2.heap.size = w.heap.size + 6 := by rw [hW2]; simp [hsz0]
  have hB0 : RowKit.Below w.heap.size w W0 := hW0 ▸ ((((Below.refl _ w).alloc (Nat.le_refl _) _).alloc (by simp) _).alloc (by simp <;> omega) _).alloc (by simp <;> omega) _
  have hB2 : RowKit.Below w.heap.size w W2 := hW2 ▸ (hB0.alloc hB0.size _).alloc (by simp <;> omega) _
  have j1 := Blk.new w 110 #[.int .i64 lo, .int .i64 pa, .int .i64 ow, .int .i64 dl]
  have j2 := Blk.nw1 w (.cells #[.int .i64 lo, .int .i64 pa, .int .i64 ow, .int .i64 dl] 110) 42 #[.slice none 0 0]
  have j3 := OwnSt.made ((w.alloc (.cells #[.int .i64 lo, .int .i64 pa, .int .i64 ow, .int .i64 dl] 110)).alloc (.cells #[.slice none 0 0] 42))
  have j4 := Blk.nw3 w (.cells #[.int .i64 lo, .int .i64 pa, .int .i64 ow, .int .i64 dl] 110) (.cells #[.slice none 0 0] 42) (.map #[] 0) 192 #[.map (some (w.heap.size + 1 + 1))]
  simp only [World.size_alloc] at j3
  have k1 : Blk W2 w.heap.size #[.int .i64 lo, .int .i64 pa, .int .i64 ow, .int .i64 dl] 110 := by rw [hW2, hW0]; exact ((((j1.alloc _).alloc _).alloc _).alloc _).alloc _
  have k2 : Blk W2 (w.heap.size + 1) #[.slice none 0 0] 42 := by rw [hW2, hW0]; exact (((j2.alloc _).alloc _).alloc _).alloc _
  have k3 : OwnSt (w.heap.size + 1 + 1) 0 (fun _ => false) W2 := by rw [hW2, hW0]; exact ((j3.alloc _).alloc _).alloc _
  have k4 : Blk W2 (w.heap.size + 1 + 1 + 1) #[.map (some (w.heap.size + 1 + 1))] 192 := by rw [hW2, hW0]; exact (j4.alloc _).alloc _
  have hLw := hL.below hB0
  have hst := countingF_stops 2 (by omega) a m cap xs known W0 W2 hW2 hLw hf
  clear j1 j2 j3 j4 hW0 hW2 hB0 hLw hmm
  rw [hsz0] at hst
  clear hsz0
  have hxl := hL.len
  have hSlt : ∀ k, (k = w.heap.size + 1 + 1 + 1 + 1 ∨ k = w.heap.size + 1 + 1 + 1 + 1 + 1 ∨ (xs ≠ [] ∧ ∃ off, a = some ⟨k, off, none⟩)) → k < W2.heap.size ∧ k ≠ w.heap.size + 1 ∧ k ≠ w.heap.size + 1 + 1 := by
    rintro k (rfl | rfl | ⟨hne, off, ha⟩)
    · omega
    · omega
    · obtain ⟨x, xs', rfl⟩ := List.exists_cons_of_ne_nil hne
      obtain ⟨b, off', ha', hlt, _⟩ := hL.at_ 0 x rfl
      rw [ha] at ha'; cases ha'; omega
  refine wpIn_rangeFunc_ownH rfl (by omega) (gf := 158) rfl trivial (enters_of Tryz.func158 (by kernel_rfl) rfl) hst (fun h k => KpOn.trans h k) ?hKb (Below.refl _ _) (fun _ => rfl)
    (PO lo pa ow dl w W2) (fun _ _ _ => False) ?hI (fun _ _ _ _ _ hs _ _ => hs) ⟨_, 0, k1, k2, k4, k3.congrK (fun _ => rfl), Nat.zero_le _, ⟨rfl, .inl ⟨rfl, rfl⟩⟩, hB2, Nat.le_refl _⟩
    (fun x a' W => ∃ Bx, W2.heap.size ≤ Bx ∧ Blk W Bx (cD x.1).toArray 36 ∧ a' = { tmps := #[aPk lo pa ow dl, .slice a m cap, .int .i64 known, .pointer (some ⟨w.heap.size, 0, none⟩), undef, undef, .slice none 0 0, .pointer (some ⟨w.heap.size + 1, 0, none⟩), .pointer (some ⟨w.heap.size + 1 + 1 + 1, 0, none⟩), .pointer (some ⟨Bx, 0, none⟩), undef, .map (some (w.heap.size + 1 + 1)), .slice a m cap, .int .i64 known, .func (.func 158) #[] #[.pointer (some ⟨w.heap.size + 1 + 1 + 1 + 1, 0, none⟩), .pointer (some ⟨w.heap.size + 1 + 1 + 1 + 1 + 1, 0, none⟩)], aD x.1, undef, undef, undef, undef, undef, undef, undef, undef, undef, undef, undef, undef, undef, undef, undef, undef, undef, undef, undef, undef, undef, undef, undef, undef, undef, undef, undef, undef, undef, undef, undef, undef, undef, undef, undef, undef, undef, undef], defers := [] })
    (fun x a' s A B row hs hg hr => hs.imp fun Bx h => ⟨h.1, h.2.1.own hg hr, h.2.2⟩) ?assign ?body ?done ?stop
  case hKb =>
    intro W l o o' hl ho hc hk
    refine ⟨by simp, fun k hS => World.putObj_heap_other (fun e => ?_)⟩
    have := hSlt k hS
    omega
  case hI =>
    rintro pre A B row ⟨v, nm, h1, h2, h3, h4, h5, h6, h7, h8⟩ hg hr
    exact ⟨v, nm, h1.own hg hr, h2.own hg hr, h3.own hg hr, h4.ownK hg (by omega) hr, h5, own_own h6 hg hr, h7.grown hg h7.size (fun k e => by have := (hr k e).1; omega), Nat.le_trans h8 hg.size⟩
  case assign =>
    rintro l pre x W K ⟨v, nm, h1, h2, h3, h4, h5, h6, h7, h8⟩ hK
    gi_wp2
    exact hK _ _ ((KeepsOthers.alloc _ _).from _) ⟨by simp, fun k hS => Below.heap_alloc _ _ _ (by have := hSlt k hS; omega)⟩ ⟨v, nm, h1.alloc _, h2.alloc _, h3.alloc _, h4.alloc _, h5, h6.alloc _, h7.alloc h7.size _, by simp; omega⟩ ⟨W.heap.size, h8, Blk.new _ _ _, rfl⟩
  case body =>
    rintro l pre x a' W hl ⟨r, hr⟩ ⟨v, nm, hP, hO, hC, hM, hnm, ho, hB, hs⟩ ⟨Bx, hBx, bX, rfl⟩ hlt
    obtain ⟨st1, hst1⟩ : ∃ s, s = stO lo pa pre := ⟨_, rfl⟩
    have hyl : st1.2.length ≤ 1000 := by
      have := stO_len lo pa (pre.map Subtype.val) ([], [])
      rw [show (pre.map Subtype.val).foldl (ofStep lo pa) ([], []) = st1 from hst1.symm, List.length_map, List.length_nil] at this
      omega
    rw [← hst1] at hM ho
    have Hst1 := Lib.hid hst1
    have cP := hP.cell
    have cO := hO.cell
    have fO := hO.frozen
    have cC := hC.cell
    have cX := bX.cell
    have hpl : pre.length ≤ 1000 := by omega
    have HSlt := Lib.hid hSlt
    have hbl := bX.lt
    clear hst k1 k2 k3 k4 hr hl hlt hSlt hst1 hL hf hw107 hxl
    by_cases k1 : x.1.loss = lo
    · have e1 : (x.1.loss == lo) = true := by simp [k1]
      by_cases k2 : x.1.pack = pa
      · have e2 : (x.1.pack == pa) = true := by simp [k2]
        by_cases k4 : x.1.kind = 4
        · have e4 : (x.1.kind == 4) = true := by simp [k4]
          have Hno : Hid (ofStep lo pa st1 x.1 = (st1.1 ++ [x.1.id], st1.2 ++ [x.1])) := Lib.hid (by unfold ofStep; simp only [k1, k2, k4]; simp)
          obtain ⟨w', hrun, hM1, hgM⟩ := hM.addK x.1.id (wf_id x.2).1 (by unfold maxLen; omega)
          have hM' : OwnSt (w.heap.size + 1 + 1) (nm + 1) (fun q => (st1.1 ++ [x.1.id]).contains q) w' := hM1.congrK (fun q => by
            rw [Bool.eq_iff_iff]; simp [or_comm])
          have hP' := hP.kept hgM (by simp <;> omega)
          have hO' := hO.kept hgM (by simp <;> omega)
          have hC' := hC.kept hgM (by simp <;> omega)
          have bX' := bX.kept hgM (by simp <;> omega)
          have ho' := ho.kept hgM (by
            cases hv : v.ownBlock with
            | none => exact .inl rfl
            | some b => exact .inr (fun e => by have := (ho.lt b hv).1; simp at e; omega))
          have hB' : RowKit.Below w.heap.size w w' := hB.grown hgM (by have := hB.size; omega) (fun k e => by cases e; omega)
          have hsM := hgM.size
          have cO' := hO'.cell
          have cX' := bX'.cell
          have cC' := hC'.cell
          clear k1 k2 k4 hM1
          gi_wp2_with (first
            | (refine wpListIn_load_mid rfl 36 _ rfl Bx 0 rfl (cD x.1) _ (bX'.range 0 _ (fun j v h => by simpa using h)) Tryz.underlying36 rfl (by kernel_rfl) ?_)
            | (gi_at_builtin; refine wpListIn_append_lies _ rfl _ _ _ rfl W2.heap.size 36 i0 _ 11 88 Tryz.underlying42 hi0 hz0 hz1 hz2 rfl (by omega) _ st1.2.length (st1.2.flatMap cD) rfl (ho'.alloc _) ⟨w'.heap.size, 0, none⟩ 1 1 (cD x.1) rfl rfl (World.news_of_block (cs := (cD x.1).toArray) (t := 36) (fr := (0, 0)) (heap_alloc_new w' _)) (cD_one x.1) (by omega) (by unfold maxLen; omega) (by omega) (by simp; omega) ?_; intro g cap1 w3 hown3 hgrow; have hne : some (w.heap.size + 1) ≠ v.ownBlock := (fun e => by have := (ho'.lt _ e.symm).1; omega); have h3 := (hO'.alloc _).kept hgrow hne; have c3 := h3.cell; have f3 := h3.frozen; have l3 := h3.lt)
            | fail)
          have hsz := hgrow.size
          simp only [World.size_alloc] at hsz
          have hko : KeepsFrom W2.heap.size W (w3.setCell ⟨w.heap.size + 1, 0, none⟩ (.slice (some ⟨g, 0, none⟩) (st1.2.length + 1) cap1)) := (KeepsFrom.of_grownBy hgM (fun j e => by cases e; omega)).trans ((((KeepsOthers.alloc w' _).trans (KeepsOthers.of_grownBy hgrow (own_cells (ho'.alloc _)))).trans (KeepsOthers.setCell _ _ _)).from _)
          have hgS : w3.grownBy (w3.setCell ⟨w.heap.size + 1, 0, none⟩ (.slice (some ⟨g, 0, none⟩) (st1.2.length + 1) cap1)) (some (w.heap.size + 1)) := grownBy_setCells w3 (w.heap.size + 1) 0 [.slice (some ⟨g, 0, none⟩) (st1.2.length + 1) cap1]
          have hnv : ∀ k, k < W2.heap.size → some k ≠ v.ownBlock := fun k hk e => by have := (ho'.lt _ e.symm).1; omega
          refine ⟨hko, ⟨hko.size, fun k hS => ?_⟩, .slice (some ⟨g, 0, none⟩) (st1.2.length + 1) cap1, (nm + 1), ?_, h3.setCell 0 _, ?_, ?_, by rw [List.length_append]; simp; omega, ?_, ?_, ?_⟩
          · have h4 := HSlt.out k hS
            refine Eq.trans (hgS.block k (by omega) (by simp <;> omega)) (Eq.trans (hgrow.block k (by simp <;> omega) (hnv k h4.1)) (Eq.trans (Below.heap_alloc _ _ _ (by omega)) ?_))
            exact hgM.block k (by omega) (fun e => by cases e; omega)
          · exact ((hP'.alloc _).kept hgrow (hnv _ (by omega))).kept hgS (by simp <;> omega)
          · exact ((hC'.alloc _).kept hgrow (hnv _ (by omega))).kept hgS (by simp <;> omega)
          · rw [stO_snoc, ← Hst1.out, Hno.out]
            exact ((hM'.alloc _).kept hgrow (hnv _ (by omega))).kept hgS (by simp <;> omega)
          · rw [stO_snoc, ← Hst1.out, Hno.out]
            simp only [List.length_append, List.length_cons, List.length_nil, List.flatMap_append, List.flatMap_singleton]
            exact own_set hown3 (by omega) 0 _
          · exact (below_of_grown (hB'.alloc hB'.size _) (Nat.le_refl _) hgrow (fun q e => by have := (ho'.lt q e).1; omega)).grown hgS (by have := hB.size; omega) (fun k e => by cases e; omega)
          · have := hgS.size
            omega
        · have e4 : (x.1.kind == 4) = false := by simp [k4]
          have Hno : Hid (ofStep lo pa st1 x.1 = (st1.1, st1.2 ++ [x.1])) := Lib.hid (by unfold ofStep; simp only [k1, k2, k4]; simp)
          clear k1 k2 k4
          gi_wp2_with (first
            | (refine wpListIn_load_mid rfl 36 _ rfl Bx 0 rfl (cD x.1) _ (bX.range 0 _ (fun j v h => by simpa using h)) Tryz.underlying36 rfl (by kernel_rfl) ?_)
            | (gi_at_builtin; refine wpListIn_append_lies _ rfl _ _ _ rfl W2.heap.size 36 i0 _ 11 88 Tryz.underlying42 hi0 hz0 hz1 hz2 rfl (by omega) _ st1.2.length (st1.2.flatMap cD) rfl (ho.alloc _) ⟨W.heap.size, 0, none⟩ 1 1 (cD x.1) rfl rfl (World.news_of_block (cs := (cD x.1).toArray) (t := 36) (fr := (0, 0)) (heap_alloc_new W _)) (cD_one x.1) (by omega) (by unfold maxLen; omega) (by omega) (by simp; omega) ?_; intro g cap1 w3 hown3 hgrow; have hne : some (w.heap.size + 1) ≠ v.ownBlock := (fun e => by have := (ho.lt _ e.symm).1; omega); have h3 := (hO.alloc _).kept hgrow hne; have c3 := h3.cell; have f3 := h3.frozen; have l3 := h3.lt)
            | fail)
          have hsz := hgrow.size
          simp only [World.size_alloc] at hsz
          have hko : KeepsFrom W2.heap.size W (w3.setCell ⟨w.heap.size + 1, 0, none⟩ (.slice (some ⟨g, 0, none⟩) (st1.2.length + 1) cap1)) := (KeepsFrom.refl W2.heap.size W).trans ((((KeepsOthers.alloc W _).trans (KeepsOthers.of_grownBy hgrow (own_cells (ho.alloc _)))).trans (KeepsOthers.setCell _ _ _)).from _)
          have hgS : w3.grownBy (w3.setCell ⟨w.heap.size + 1, 0, none⟩ (.slice (some ⟨g, 0, none⟩) (st1.2.length + 1) cap1)) (some (w.heap.size + 1)) := grownBy_setCells w3 (w.heap.size + 1) 0 [.slice (some ⟨g, 0, none⟩) (st1.2.length + 1) cap1]
          have hnv : ∀ k, k < W2.heap.size → some k ≠ v.ownBlock := fun k hk e => by have := (ho.lt _ e.symm).1; omega
          refine ⟨hko, ⟨hko.size, fun k hS => ?_⟩, .slice (some ⟨g, 0, none⟩) (st1.2.length + 1) cap1, nm, ?_, h3.setCell 0 _, ?_, ?_, by rw [List.length_append]; simp; omega, ?_, ?_, ?_⟩
          · have h4 := HSlt.out k hS
            refine Eq.trans (hgS.block k (by omega) (by simp <;> omega)) (Eq.trans (hgrow.block k (by simp <;> omega) (hnv k h4.1)) (Eq.trans (Below.heap_alloc _ _ _ (by omega)) ?_))
            exact rfl
          · exact ((hP.alloc _).kept hgrow (hnv _ (by omega))).kept hgS (by simp <;> omega)
          · exact ((hC.alloc _).kept hgrow (hnv _ (by omega))).kept hgS (by simp <;> omega)
          · rw [stO_snoc, ← Hst1.out, Hno.out]
            exact ((hM.alloc _).kept hgrow (hnv _ (by omega))).kept hgS (by simp <;> omega)
          · rw [stO_snoc, ← Hst1.out, Hno.out]
            simp only [List.length_append, List.length_cons, List.length_nil, List.flatMap_append, List.flatMap_singleton]
            exact own_set hown3 (by omega) 0 _
          · exact (below_of_grown (hB.alloc hB.size _) (Nat.le_refl _) hgrow (fun q e => by have := (ho.lt q e).1; omega)).grown hgS (by have := hB.size; omega) (fun k e => by cases e; omega)
          · have := hgS.size
            omega
      · have e2 : (x.1.pack == pa) = false := by simp [k2]
        have Hk := Lib.hid k2
        clear k1
        by_cases k5 : x.1.kind = 5
        · have e3 : (x.1.kind == 5) = true := by simp [k5]
          have hlk := hM.lookK x.1.of_ (wf_id x.2).2
          cases hcn : st1.1.contains x.1.of_ with
          | true =>
            have hcm : x.1.of_ ∈ st1.1 := by simpa using hcn
            have Hno : Hid (ofStep lo pa st1 x.1 = (st1.1, st1.2 ++ [x.1])) := Lib.hid (by unfold ofStep; simp [k2, k5, hcm])
            rw [show (st1.1.contains x.1.of_) = true from hcn] at hlk
            clear k5 hcn hcm
            gi_wp2_with (first
              | (refine wpListIn_load_mid rfl 36 _ rfl Bx 0 rfl (cD x.1) _ (bX.range 0 _ (fun j v h => by simpa using h)) Tryz.underlying36 rfl (by kernel_rfl) ?_)
              | (gi_at_builtin; refine wpListIn_append_lies _ rfl _ _ _ rfl W2.heap.size 36 i0 _ 11 88 Tryz.underlying42 hi0 hz0 hz1 hz2 rfl (by omega) _ st1.2.length (st1.2.flatMap cD) rfl (ho.alloc _) ⟨W.heap.size, 0, none⟩ 1 1 (cD x.1) rfl rfl (World.news_of_block (cs := (cD x.1).toArray) (t := 36) (fr := (0, 0)) (heap_alloc_new W _)) (cD_one x.1) (by omega) (by unfold maxLen; omega) (by omega) (by simp; omega) ?_; intro g cap1 w3 hown3 hgrow; have hne : some (w.heap.size + 1) ≠ v.ownBlock := (fun e => by have := (ho.lt _ e.symm).1; omega); have h3 := (hO.alloc _).kept hgrow hne; have c3 := h3.cell; have f3 := h3.frozen; have l3 := h3.lt)
              | fail)
            have hsz := hgrow.size
            simp only [World.size_alloc] at hsz
            have hko : KeepsFrom W2.heap.size W (w3.setCell ⟨w.heap.size + 1, 0, none⟩ (.slice (some ⟨g, 0, none⟩) (st1.2.length + 1) cap1)) := (KeepsFrom.refl W2.heap.size W).trans ((((KeepsOthers.alloc W _).trans (KeepsOthers.of_grownBy hgrow (own_cells (ho.alloc _)))).trans (KeepsOthers.setCell _ _ _)).from _)
            have hgS : w3.grownBy (w3.setCell ⟨w.heap.size + 1, 0, none⟩ (.slice (some ⟨g, 0, none⟩) (st1.2.length + 1) cap1)) (some (w.heap.size + 1)) := grownBy_setCells w3 (w.heap.size + 1) 0 [.slice (some ⟨g, 0, none⟩) (st1.2.length + 1) cap1]
            have hnv : ∀ k, k < W2.heap.size → some k ≠ v.ownBlock := fun k hk e => by have := (ho.lt _ e.symm).1; omega
            refine ⟨hko, ⟨hko.size, fun k hS => ?_⟩, .slice (some ⟨g, 0, none⟩) (st1.2.length + 1) cap1, nm, ?_, h3.setCell 0 _, ?_, ?_, by rw [List.length_append]; simp; omega, ?_, ?_, ?_⟩
            · have h4 := HSlt.out k hS
              refine Eq.trans (hgS.block k (by omega) (by simp <;> omega)) (Eq.trans (hgrow.block k (by simp <;> omega) (hnv k h4.1)) (Eq.trans (Below.heap_alloc _ _ _ (by omega)) ?_))
              exact rfl
            · exact ((hP.alloc _).kept hgrow (hnv _ (by omega))).kept hgS (by simp <;> omega)
            · exact ((hC.alloc _).kept hgrow (hnv _ (by omega))).kept hgS (by simp <;> omega)
            · rw [stO_snoc, ← Hst1.out, Hno.out]
              exact ((hM.alloc _).kept hgrow (hnv _ (by omega))).kept hgS (by simp <;> omega)
            · rw [stO_snoc, ← Hst1.out, Hno.out]
              simp only [List.length_append, List.length_cons, List.length_nil, List.flatMap_append, List.flatMap_singleton]
              exact own_set hown3 (by omega) 0 _
            · exact (below_of_grown (hB.alloc hB.size _) (Nat.le_refl _) hgrow (fun q e => by have := (ho.lt q e).1; omega)).grown hgS (by have := hB.size; omega) (fun k e => by cases e; omega)
            · have := hgS.size
              omega
          | false =>
            have hcm : x.1.of_ ∉ st1.1 := by simpa using hcn
            have Hno : Hid (ofStep lo pa st1 x.1 = st1) := Lib.hid (by unfold ofStep; simp [k2, k5, hcm])
            rw [show (st1.1.contains x.1.of_) = false from hcn] at hlk
            clear k5 hcn hcm
            gi_wp2
            exact ⟨KeepsFrom.refl _ _, KpOn.refl _ _, v, nm, hP, hO, hC, by rw [stO_snoc, ← Hst1.out, Hno.out]; exact hM, by rw [List.length_append]; omega, by rw [stO_snoc, ← Hst1.out, Hno.out]; exact ho, hB, hs⟩
        · have e3 : (x.1.kind == 5) = false := by simp [k5]
          have Hno : Hid (ofStep lo pa st1 x.1 = st1) := Lib.hid (by unfold ofStep; simp only [k2, k5]; simp)
          clear k5
          gi_wp2
          exact ⟨KeepsFrom.refl _ _, KpOn.refl _ _, v, nm, hP, hO, hC, by rw [stO_snoc, ← Hst1.out, Hno.out]; exact hM, by rw [List.length_append]; omega, by rw [stO_snoc, ← Hst1.out, Hno.out]; exact ho, hB, hs⟩
    · have e1 : (x.1.loss == lo) = false := by simp [k1]
      by_cases k5 : x.1.kind = 5
      · have e3 : (x.1.kind == 5) = true := by simp [k5]
        have hlk := hM.lookK x.1.of_ (wf_id x.2).2
        cases hcn : st1.1.contains x.1.of_ with
        | true =>
          have hcm : x.1.of_ ∈ st1.1 := by simpa using hcn
          have Hno : Hid (ofStep lo pa st1 x.1 = (st1.1, st1.2 ++ [x.1])) := Lib.hid (by unfold ofStep; simp [k1, k5, hcm])
          rw [show (st1.1.contains x.1.of_) = true from hcn] at hlk
          clear k5 hcn hcm
          gi_wp2_with (first
            | (refine wpListIn_load_mid rfl 36 _ rfl Bx 0 rfl (cD x.1) _ (bX.range 0 _ (fun j v h => by simpa using h)) Tryz.underlying36 rfl (by kernel_rfl) ?_)
            | (gi_at_builtin; refine wpListIn_append_lies _ rfl _ _ _ rfl W2.heap.size 36 i0 _ 11 88 Tryz.underlying42 hi0 hz0 hz1 hz2 rfl (by omega) _ st1.2.length (st1.2.flatMap cD) rfl (ho.alloc _) ⟨W.heap.size, 0, none⟩ 1 1 (cD x.1) rfl rfl (World.news_of_block (cs := (cD x.1).toArray) (t := 36) (fr := (0, 0)) (heap_alloc_new W _)) (cD_one x.1) (by omega) (by unfold maxLen; omega) (by omega) (by simp; omega) ?_; intro g cap1 w3 hown3 hgrow; have hne : some (w.heap.size + 1) ≠ v.ownBlock := (fun e => by have := (ho.lt _ e.symm).1; omega); have h3 := (hO.alloc _).kept hgrow hne; have c3 := h3.cell; have f3 := h3.frozen; have l3 := h3.lt)
            | fail)
          have hsz := hgrow.size
          simp only [World.size_alloc] at hsz
          have hko : KeepsFrom W2.heap.size W (w3.setCell ⟨w.heap.size + 1, 0, none⟩ (.slice (some ⟨g, 0, none⟩) (st1.2.length + 1) cap1)) := (KeepsFrom.refl W2.heap.size W).trans ((((KeepsOthers.alloc W _).trans (KeepsOthers.of_grownBy hgrow (own_cells (ho.alloc _)))).trans (KeepsOthers.setCell _ _ _)).from _)
          have hgS : w3.grownBy (w3.setCell ⟨w.heap.size + 1, 0, none⟩ (.slice (some ⟨g, 0, none⟩) (st1.2.length + 1) cap1)) (some (w.heap.size + 1)) := grownBy_setCells w3 (w.heap.size + 1) 0 [.slice (some ⟨g, 0, none⟩) (st1.2.length + 1) cap1]
          have hnv : ∀ k, k < W2.heap.size → some k ≠ v.ownBlock := fun k hk e => by have := (ho.lt _ e.symm).1; omega
          refine ⟨hko, ⟨hko.size, fun k hS => ?_⟩, .slice (some ⟨g, 0, none⟩) (st1.2.length + 1) cap1, nm, ?_, h3.setCell 0 _, ?_, ?_, by rw [List.length_append]; simp; omega, ?_, ?_, ?_⟩
          · have h4 := HSlt.out k hS
            refine Eq.trans (hgS.block k (by omega) (by simp <;> omega)) (Eq.trans (hgrow.block k (by simp <;> omega) (hnv k h4.1)) (Eq.trans (Below.heap_alloc _ _ _ (by omega)) ?_))
            exact rfl
          · exact ((hP.alloc _).kept hgrow (hnv _ (by omega))).kept hgS (by simp <;> omega)
          · exact ((hC.alloc _).kept hgrow (hnv _ (by omega))).kept hgS (by simp <;> omega)
          · rw [stO_snoc, ← Hst1.out, Hno.out]
            exact ((hM.alloc _).kept hgrow (hnv _ (by omega))).kept hgS (by simp <;> omega)
          · rw [stO_snoc, ← Hst1.out, Hno.out]
            simp only [List.length_append, List.length_cons, List.length_nil, List.flatMap_append, List.flatMap_singleton]
            exact own_set hown3 (by omega) 0 _
          · exact (below_of_grown (hB.alloc hB.size _) (Nat.le_refl _) hgrow (fun q e => by have := (ho.lt q e).1; omega)).grown hgS (by have := hB.size; omega) (fun k e => by cases e; omega)
          · have := hgS.size
            omega
        | false =>
          have hcm : x.1.of_ ∉ st1.1 := by simpa using hcn
          have Hno : Hid (ofStep lo pa st1 x.1 = st1) := Lib.hid (by unfold ofStep; simp [k1, k5, hcm])
          rw [show (st1.1.contains x.1.of_) = false from hcn] at hlk
          clear k5 hcn hcm
          gi_wp2
          exact ⟨KeepsFrom.refl _ _, KpOn.refl _ _, v, nm, hP, hO, hC, by rw [stO_snoc, ← Hst1.out, Hno.out]; exact hM, by rw [List.length_append]; omega, by rw [stO_snoc, ← Hst1.out, Hno.out]; exact ho, hB, hs⟩
      · have e3 : (x.1.kind == 5) = false := by simp [k5]
        have Hno : Hid (ofStep lo pa st1 x.1 = st1) := Lib.hid (by unfold ofStep; simp only [k1, k5]; simp)
        clear k5
        gi_wp2
        exact ⟨KeepsFrom.refl _ _, KpOn.refl _ _, v, nm, hP, hO, hC, by rw [stO_snoc, ← Hst1.out, Hno.out]; exact hM, by rw [List.length_append]; omega, by rw [stO_snoc, ← Hst1.out, Hno.out]; exact ho, hB, hs⟩
  case done =>
    rintro D ys W hD hys ⟨v, nm, h1, h2, h3, h4, h5, h6, h7, h8⟩ hK
    have e : (stO lo pa ys).2 = ofPack xs lo pa known := by unfold stO ofPack; rw [hys]
    rw [e] at h6
    have c2 := h2.cell
    have hne : some D ≠ v.ownBlock := fun q => by
      have := own_cells h6 D _ q.symm hK
      cases this
    have E := Lib.hid e
    clear e hys hst hSlt k1 k2 k3 k4 hL hf
    gi_wp2
    refine ⟨by simp, .inl ⟨_, _, rfl, run_takeDeferred hK, ?_⟩⟩
    refine ⟨_, results_one rfl _ _, ?_⟩
    refine ⟨v, rfl, ?_, h7.trans (belowK_b (w := w) (Nat.le_refl _) W D _ _ (by omega) hK rfl rfl)⟩
    have h9 := h6.kept (grownBy_putObj' W D (.deferred none)) (.inr (fun q => hne q.symm))
    exact ownsRow_base_a h9 (by omega)
  case stop =>
    rintro D c pre W _ _ h _
    exact h.elim

end Go.Proofs.YtmeomhojbobpbaaGreatDoor
