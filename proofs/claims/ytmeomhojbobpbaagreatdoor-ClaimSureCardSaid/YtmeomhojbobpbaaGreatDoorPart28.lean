import Derived.Test.YtmeomhojbobpbaaGreatDoorPart26
import Derived.Test.YtmeomhojbobpbaaGreatDoorPart27
import Derived.Deep.CutRange
import Derived.Deep.DeepCutAuto
/-
  Walk: the deeds of a package done ((claim.pack).done), where no number leaves its range.
-/
namespace Go.Proofs.YtmeomhojbobpbaaGreatDoor
open Go.RowKit Lg Go.Sort Go.Shelf

theorem movesK_any (k : Int) (w : World) : Calls Tryz.prog 125 #[.int .u8 k] w fun e w' => e = .returned (.bool (movesD k)) ∧ w' = w := by
  unfold movesD
  by_cases h1 : k = 1
  · have g1 : (k == 1) = true := by simp [h1]
    have H := Lib.hid h1; clear h1
    go_enter Tryz.func125, Tryz.ntmps125
    go_wp2
    go_ret
    exact ⟨ret_bool (by simp [H.out]), rfl⟩
  · have g1 : (k == 1) = false := by simp [h1]
    have H1 := Lib.hid h1; clear h1
    by_cases h2 : k = 2
    · have g2 : (k == 2) = true := by simp [h2]
      have H := Lib.hid h2; clear h2
      go_enter Tryz.func125, Tryz.ntmps125
      go_wp2
      go_ret
      exact ⟨ret_bool (by simp [H.out]), rfl⟩
    · have g2 : (k == 2) = false := by simp [h2]
      have H2 := Lib.hid h2; clear h2
      go_enter Tryz.func125, Tryz.ntmps125
      go_wp2
      go_ret
      exact ⟨ret_bool (by simp [H1.out, H2.out, ieq]), rfl⟩

theorem results_cell_tmp_tmp {P : Program} {fn : Func} {p t u : Tmp} {ty : TypeId} (h : fn.results = #[.cell p ty, .tmp t, .tmp u]) (tmps : Array Value) (w : World) (g : Nat) (T : TypeId) (cs : List Value) (d : TypeDesc)
    (hp : tmps.getD p undef = .pointer (some ⟨g, 0, none⟩)) (hg : Blk w g cs.toArray T) (hu : P.underlying ty = some d) (hd : d.isRow = true) (hi : (P.info? ty).map (·.size) = some cs.length) :
    (results fn tmps).run P w = .ok (.tuple #[.agg cs.toArray, tmps.getD t undef, tmps.getD u undef]) w := by
  have hp' : tmps[p]?.getD undef = .pointer (some ⟨g, 0, none⟩) := by simpa using hp
  simp [results, h, hp', asAddr, run_loadVar_blk w g T ty cs d hg hu hd hi]

theorem Lst.one11 {W : World} {B : Nat} {x : Deed} {t : TypeId} (k : Blk W B (cD x).toArray t) : Lst W 11 cD (some ⟨B, 0, none⟩) 1 1 [x] :=
  ⟨rfl, Nat.le_refl _, by unfold maxLen; omega, fun i y hx => by
    have hi : i = 0 := by have := (List.getElem?_eq_some_iff.1 hx).1; simp at this; exact this
    subst hi
    obtain rfl : x = y := by simpa using hx
    exact ⟨B, 0, rfl, k.lt, fun j u hu => by have := k.cell j; simp only [Nat.zero_mul, Nat.zero_add]; rw [this]; simpa using hu⟩⟩

/-- Shares being laid out. -/
def stI (k : Nat) : List Frac := List.replicate k ⟨0, 1⟩ ++ List.replicate (41 - k) ⟨0, 0⟩
theorem stI_len {k : Nat} (h : k ≤ 41) : (stI k).length = 41 := by unfold stI; simp; omega
theorem stI_step {k : Nat} (h : k < 41) : (stI k).set k ⟨0, 1⟩ = stI (k + 1) := by
  unfold stI
  rw [show 41 - k = (41 - (k + 1)) + 1 by omega, List.replicate_succ, List.set_append_right _ _ (by simp), List.length_replicate, Nat.sub_self, List.set_cons_zero, List.replicate_succ']
  simp
theorem stI_end (oo : Nat) : (stI 41).set oo ⟨1, 1⟩ = begunD (oo : Int) := by
  unfold stI begunD frSet; simp

/-- No number leaves its range while deeds are done. -/
def calmD (cl : List Int) (dl h : Int) : List Deed → Run → Bool
  | [], _ => true
  | x :: l, r => match lapR cl dl x.hour r with
    | none => false
    | some q => (!(movesD x.kind && decide (x.hour ≤ h)) || (doD q.s x).isSome || decide ((fr q.s x.from_).num = 0)) && calmD cl dl h l (mvR h q x)

theorem zero_shares : Tryz.zeroCells113 = cSs (stI 0) := by kernel_rfl

theorem cell_grownB {w w' : World} {B b o : Nat} {v : Value} (h : w.cell? ⟨b, o, none⟩ = some v) (hg : w.grownBy w' (some B)) (hne : b ≠ B) : w'.cell? ⟨b, o, none⟩ = some v :=
  (World.cell?_of_block (a := ⟨b, o, none⟩) (hg.block b (block_lt_of_cell h) (by simpa using hne))).trans h

/-- A list of deeds elsewhere. -/
theorem Lst.grownD {w w' : World} {B : Nat} {a : Option Addr} {n cap : Nat} {xs : List Deed} (h : Lst w 11 cD a n cap xs) (hg : w.grownBy w' (some B)) (hne : ∀ b off, a = some ⟨b, off, none⟩ → b ≠ B) : Lst w' 11 cD a n cap xs :=
  ⟨h.len, h.le, h.max, fun i x hx => by
    obtain ⟨b, off, ha, hlt, hr⟩ := h.at_ i x hx
    exact ⟨b, off, ha, Nat.lt_of_lt_of_le hlt hg.size, fun j v hv => cell_grownB (hr j v hv) hg (hne b off ha)⟩⟩

theorem cF_flat_one (l : List Frac) : (cSs l).all (·.oneCell') = true := cSs_one l

theorem own_setCellsK {W : World} {base B : Nat} {e : TypeId} {k : Nat} {v : Value} {n : Nat} {xs : List Value} (h : W.ownsRow base e k v n xs) (hB : B < base) (o : Nat) (vs : List Value) : (W.setCells B o vs).ownsRow base e k v n xs := by
  refine World.ownsRow.kept h (grownBy_setCells W B o vs) ?_
  cases hv : v.ownBlock with
  | none => exact .inl rfl
  | some b => exact .inr (fun e => by have := own_ge' h b hv; simp at e; omega)

theorem own_keptB {W W' : World} {base B : Nat} {e : TypeId} {k : Nat} {v : Value} {n : Nat} {xs : List Value} (h : W.ownsRow base e k v n xs) (hg : W.grownBy W' (some B)) (hB : B < base) : W'.ownsRow base e k v n xs := by
  refine World.ownsRow.kept h hg ?_
  cases hv : v.ownBlock with
  | none => exact .inl rfl
  | some b => exact .inr (fun e => by have := own_ge' h b hv; simp at e; omega)

theorem lap_idle {cl : List Int} {dl h : Int} {r q : Run} (e : lapR cl dl h r = some q) : q.idle = r.idle := by
  unfold lapR at e
  split at e
  · cases hl : lapseD cl r.s with
    | none => rw [hl] at e; cases e
    | some s => rw [hl] at e; simp only [Option.map_some, Option.some.injEq] at e; rw [← e]
  · simp only [Option.some.injEq] at e; rw [e]

set_option maxRecDepth 100000 in
set_option maxHeartbeats 6400000 in
theorem doneD_ok (lo pa : Int) (oo : Nat) (dl hour : Int) (a : Option Addr) (n cap : Nat) (xs : List Deed) (w : World) (hL : Lst w 11 cD a n cap xs) (hn : n ≤ 18) (ho1 : oo ≤ 40) (hf : ∀ x ∈ xs, MoveOk x)
    (hc : calmD (claimedD xs dl) dl hour (byHourD xs ++ [farD]) (startR oo dl hour) = true) (rf : Run) (hr : doneD xs oo dl hour = some rf) :
    Calls Tryz.prog 97 #[aPk lo pa (oo : Int) dl, .slice a n cap, .int .i64 hour] w fun e w' => ∃ v, e = .returned (.tuple #[.agg (cSs rf.s), v, .int .i64 0]) ∧ w'.ownsRow w.heap.size 3 1 v rf.idle.length ((sortI rf.idle).map (Value.int .i64)) ∧ RowKit.Below w.heap.size w w' := by
  obtain ⟨i0, hi0, hz0, hz1, hz2⟩ := info_parts infoD
  obtain ⟨k0, hk0, hy0, hy1, hy2⟩ := info_parts infoI
  have hm : cap ≤ 9223372036854775807 := by have := hL.max; unfold maxLen at this; omega
  obtain ⟨w0, hw0⟩ : ∃ w0, w0 = ((w.alloc (.cells #[.int .i64 lo, .int .i64 pa, .int .i64 oo, .int .i64 dl] 110)).alloc (.cells Tryz.zeroCells113 113)).alloc (.cells Tryz.zeroCells113 113) := ⟨_, rfl⟩
  have kP : Blk w0 w.heap.size #[.int .i64 lo, .int .i64 pa, .int .i64 oo, .int .i64 dl] 110 := hw0 ▸ ((Blk.new w _ _).alloc _).alloc _
  have kR : Blk w0 (w.heap.size + 1) (cSs (stI 0)) 113 := by rw [hw0, ← zero_shares]; exact (Blk.nw1 w _ _ _).alloc _
  have kS : Blk w0 (w.heap.size + 1 + 1) (cSs (stI 0)) 113 := by rw [hw0, ← zero_shares]; exact Blk.nw2 w _ _ _ _
  have hB0 : RowKit.Below w.heap.size w w0 := hw0 ▸ (((Below.refl _ w).alloc (Nat.le_refl _) _).alloc (by simp) _).alloc (by simp; omega) _
  have hs0 : w0.heap.size = w.heap.size + 3 := by rw [hw0]; simp
  go_enter Tryz.func97, Tryz.ntmps97
  go_upto_region 2 with fail
  rw [← hw0]
  clear hw0
  obtain ⟨bp, hbp⟩ : ∃ b, b = w.heap.size := ⟨_, rfl⟩
  obtain ⟨br, hbr⟩ : ∃ b, b = w.heap.size + 1 := ⟨_, rfl⟩
  obtain ⟨bs, hbs⟩ : ∃ b, b = w.heap.size + 1 + 1 := ⟨_, rfl⟩
  rw [← hbs] at kS ⊢
  rw [← hbr] at kR ⊢
  rw [← hbp] at kP ⊢
  have hps : bp ≠ bs := by omega
  have hrs : br ≠ bs := by omega
  have hpr : bp ≠ br := by omega
  have hws : w.heap.size ≤ bs := by omega
  have hwr : w.heap.size ≤ br := by omega
  have hwp : w.heap.size ≤ bp := by omega
  have hs0s : bs < w0.heap.size := kS.lt
  have hs0r : br < w0.heap.size := kR.lt
  clear hbp hbr hbs hs0
  go_wp2_with (fail)
  go_loopw [16] (fun i wr => ∃ k : Nat, k ≤ 41 ∧ i = .int .i64 k ∧ Blk wr bs (cSs (stI k)) 113 ∧ w0.grownBy wr (some bs)) (fun i _ => 41 - (intOf i).toNat)
  case atStart => exact ⟨0, Nat.zero_le _, rfl, kS, grown_refl _ _⟩
  case round =>
    obtain ⟨k, hk, rfl, kS1, hg1⟩ := hrel
    by_cases hlt : k < 41
    · have hltz : (k : Int) < 41 := by omega
      have hkz : (0 : Int) ≤ (k : Int) := by omega
      have TH := there_share kS1 k (by rw [stI_len hk]; exact hlt)
      have kS2 : Blk (wr.setCells bs (k * 2) (cF ⟨0, 1⟩)) bs (cSs (stI (k + 1))) 113 := by
        have q := kS1.setCells (k * 2) (cF ⟨0, 1⟩)
        rwa [setAll_shares, stI_step hlt] at q
      go_wp2_with (first
        | (refine wpList_store_mid rfl 83 _ _ rfl bs (k * 2) #[.int .i64 0, .int .i64 1] rfl rfl TH (by kernel_rfl) (by simp [Value.oneCell']) ?_)
        | fail)
      go_roundw
      case rel => exact ⟨k + 1, by omega, by go_num, kS2, grown_trans hg1 (grownBy_setCells wr bs (k * 2) (cF ⟨0, 1⟩))⟩
      case measure => simp [intOf]; omega
    · obtain rfl : k = 41 := by omega
      have hoz : (0 : Int) ≤ (oo : Int) := by omega
      have hoz1 : (oo : Int) < 41 := by omega
      have kP1 := kP.kept hg1 (by simpa using hps)
      have kR1 := kR.kept hg1 (by simpa using hrs)
      have TH := there_share kS1 oo (by rw [stI_len hk]; omega)
      have kS2 : Blk (wr.setCells bs (oo * 2) (cF ⟨1, 1⟩)) bs (cSs (begunD (oo : Int))) 113 := by
        have q := kS1.setCells (oo * 2) (cF ⟨1, 1⟩)
        rwa [setAll_shares, stI_end oo] at q
      obtain ⟨w1, hw1⟩ : ∃ w1, w1 = wr.setCells bs (oo * 2) (cF ⟨1, 1⟩) := ⟨_, rfl⟩
      have kP2 : Blk w1 bp #[.int .i64 lo, .int .i64 pa, .int .i64 oo, .int .i64 dl] 110 := hw1 ▸ kP1.setCells_other hps _ _
      have kR2 : Blk w1 br (cSs (stI 0)) 113 := hw1 ▸ kR1.setCells_other hrs _ _
      have hB1 : RowKit.Below w.heap.size w w1 := hw1 ▸ below_setCells (hB0.grown hg1 (by have := hB0.size; omega) (fun k e => by cases e; omega)) hws _ _
      rw [← hw1] at kS2
      have cP1 := kP1.cell
      have hs1 : bs < w1.heap.size := kS2.lt
      clear kP kR kS kS1 hg1 hB0
      go_upto_region 9 with (first
        | (refine wpList_store_mid rfl 83 _ _ rfl bs (oo * 2) #[.int .i64 1, .int .i64 1] rfl rfl TH (by kernel_rfl) (by simp [Value.oneCell']) ?_)
        | fail)
      rw [show wr.setCells bs (oo * 2) [Value.int .i64 1, Value.int .i64 1] = w1 from hw1.symm]
      clear hw1 TH cP1 kP1 kR1 hoz hoz1
      have c3 := kP2.cell 3
      obtain ⟨la, hla⟩ : ∃ la, la = (decide (dl < 0) || decide (hour ≤ dl)) := ⟨_, rfl⟩
      have Hla := Lib.hid hla
      clear hla
      go_cut [12] (fun c12 W => c12 = .bool la ∧ W = w1)
      case first =>
        clear kS2 kP2 kR2 hL hc hr hf
        by_cases d1 : dl < 0
        · have e1 : decide (dl < 0) = true := decide_eq_true d1
          have D1 := Lib.hid e1
          clear d1
          go_wp2_with fail
          go_meet
          exact ⟨by rw [Hla.out, D1.out]; rfl, rfl⟩
        · have e1 : decide (dl < 0) = false := decide_eq_false d1
          have D1 := Lib.hid e1
          clear d1
          go_wp2_with fail
          go_meet
          exact ⟨by rw [Hla.out, D1.out]; rfl, rfl⟩
      case rest =>
        obtain ⟨rfl, rfl⟩ := hcut
        have hbh := byHourD_any a n cap xs wc (by omega) (hL.below hB1)
        obtain ⟨cl, hcl⟩ : ∃ cl, cl = claimedD xs dl := ⟨_, rfl⟩
        rw [← hcl] at hc
        have hfold : (byHourD xs ++ [farD]).foldl (doneStep cl dl hour) (some (startR oo dl hour)) = some rf := by rw [hcl]; exact hr
        have HL := Lib.hid hL
        have Hcl := Lib.hid hcl
        have Hc := Lib.hid hc
        have Hfold := Lib.hid hfold
        have hbl := byHourD_len xs
        have hxl := hL.len
        have HfD : Hid (∀ x ∈ byHourD xs ++ [farD], MoveOk x) := Lib.hid (fun x hx => by
          rcases List.mem_append.1 hx with hx | hx
          · exact hf x (byHour_mem.1 hx)
          · rw [List.mem_singleton.1 hx]; intro q; cases q)
        clear hL hcl hc hfold hr hf c3
        go_wp2_with (fail)
        refine hbh.mono ?_
        clear hbh
        rintro e w2 ⟨v', rfl, ho2, hB2⟩
        obtain ⟨DD, hDD⟩ : ∃ DD, DD = byHourD xs ++ [farD] := ⟨_, rfl⟩
        have hDl : DD.length = n + 1 := by rw [hDD, List.length_append, hbl, hxl]; rfl
        have hbl2 : (byHourD xs).length = n := by omega
        have HDD := Lib.hid hDD
        clear hDD hbl hxl
        go_wp2_with (first
          | (at_builtin; refine wpList_append_list rfl _ _ _ rfl wc.heap.size 36 i0 _ 11 88 Tryz.underlying42 hi0 hz0 hz1 hz2 rfl (by omega) v' n ((byHourD xs).flatMap cD) rfl (ho2.alloc _) cD (fun _ => rfl) cD_one _ 1 _ [farD] rfl (Lst.one11 (Blk.new _ _ _)) (by unfold maxLen; omega) (by omega) (by have := hB2.size; simp; omega) ?_; intro v2 w5 hown2 hgrow2; rw [← List.flatMap_append] at hown2; obtain ⟨a2, c2, rfl, ha2, hL2⟩ := Lst.of_owns (k := 11) (enc := cD) (fun _ => rfl) (by omega) hown2 (by rw [← HDD.out]; exact hDl); rw [← HDD.out] at hL2 hown2)
          | fail)
        have hb5 := below_of_grown (hB2.alloc hB2.size _) (Nat.le_refl _) hgrow2 (own_ge' ho2)
        have kS5 := kS2.below' hb5
        have kP5 := kP2.below' hb5
        have kR5 := kR2.below' hb5
        have hB5 : RowKit.Below w.heap.size w w5 := hB1.trans (hb5.mono hB1.size)
        have ha3 : ∀ b off, a2 = some ⟨b, off, none⟩ → b ≠ bs := fun b off e => by
          obtain ⟨b', h1, h2⟩ := ha2 _ e
          cases h2; omega
        have hs5 : bs < w5.heap.size := kS5.lt
        have hr5 : br < w5.heap.size := kR5.lt
        have hm2 := hL2.max
        have hle2 := hL2.le
        clear hown2 hgrow2 ho2 hB2 hb5 kS2 kP2 kR2 ha2 hbl2 hB1
        go_loopw [11, 12, 42] (fun id lb i wr => ∃ (k : Nat) (r : Run), k ≤ n + 1 ∧ i = .int .i64 k ∧ lb = .bool r.lapsed ∧ PurseOk r.s ∧ calmD cl dl hour (DD.drop k) r = true ∧ (DD.drop k).foldl (doneStep cl dl hour) (some r) = some rf ∧ r.idle.length ≤ k ∧ wr.ownsRow w5.heap.size 3 1 id r.idle.length (r.idle.flatMap cI) ∧ Blk wr bs (cSs r.s) 113 ∧ w5.grownBy wr (some bs)) (fun _ _ i _ => n + 1 - (intOf i).toNat)
        case atStart => exact ⟨0, startR oo dl hour, Nat.zero_le _, rfl, by rw [Hla.out]; rfl, begun_ok _, by rw [List.drop_zero, HDD.out]; exact Hc.out, by rw [List.drop_zero, HDD.out]; exact Hfold.out, Nat.le_refl _, ⟨rfl, .inl ⟨rfl, rfl⟩⟩, kS5, grown_refl _ _⟩
        case round =>
          obtain ⟨k, r, hk, rfl, rfl, hpo, hcalm, hfd, hil, hoi, kSr, hgr⟩ := hrel
          have kPr := kP5.kept hgr (by simpa using hps)
          have kRr := kR5.kept hgr (by simpa using hrs)
          have hBr : RowKit.Below w.heap.size w wr := hB5.grown hgr hB5.size (fun k e => by cases e; omega)
          by_cases hlt2 : k < n + 1
          · have hltz2 : (k : Int) < (n : Int) + 1 := by omega
            obtain ⟨x, hx⟩ : ∃ x, DD[k]? = some x := ⟨DD[k]'(by omega), by simp⟩
            obtain ⟨b, off, rfl, hbl, hrow⟩ := hL2.at_ k x hx
            have hbb := ha3 b off rfl
            have hrow' : wr.rangeAt b (off + k * 11) (cD x) := fun j v hv => cell_grownB (hrow j v hv) hgr hbb
            have hdrop : DD.drop k = x :: DD.drop (k + 1) := by
              obtain ⟨h1, h2⟩ := List.getElem?_eq_some_iff.1 hx
              rw [← h2, List.drop_eq_getElem_cons h1]
            have hmx : MoveOk x := HfD.out x (by rw [← HDD.out]; exact List.mem_of_getElem? hx)
            rw [hdrop] at hcalm hfd
            rw [List.foldl_cons, doneStep_eq] at hfd
            unfold calmD at hcalm
            obtain ⟨q, hq, hcm, hcq⟩ : ∃ q, lapR cl dl x.hour r = some q ∧ (!(movesD x.kind && decide (x.hour ≤ hour)) || (doD q.s x).isSome || decide ((fr q.s x.from_).num = 0)) = true ∧ calmD cl dl hour (DD.drop (k + 1)) (mvR hour q x) = true := by
              cases hq : lapR cl dl x.hour r with
              | none => rw [hq] at hcalm; cases hcalm
              | some q => rw [hq] at hcalm; simp only [Bool.and_eq_true] at hcalm; exact ⟨q, rfl, hcalm.1, hcalm.2⟩
            rw [hq, Option.map_some] at hfd
            have hqi := lap_idle hq
            have hpq : PurseOk q.s := by
              unfold lapR at hq
              split at hq
              · cases hl : lapseD cl r.s with
                | none => rw [hl] at hq; cases hq
                | some s1 =>
                  rw [hl] at hq
                  simp only [Option.map_some, Option.some.injEq] at hq
                  rw [← hq]
                  unfold lapseD at hl
                  exact lapse_ok cl _ (fun p hp => by have := List.mem_range'_1.1 hp; omega) r.s s1 hpo hl
              · simp only [Option.some.injEq] at hq; rw [← hq]; exact hpo
            obtain ⟨A4, hA4⟩ : ∃ A4, A4 = wr.alloc (.cells (cD x).toArray 36) := ⟨_, rfl⟩
            have kX : Blk A4 wr.heap.size (cD x).toArray 36 := hA4 ▸ Blk.new _ _ _
            have hBA : RowKit.Below wr.heap.size wr A4 := hA4 ▸ (Below.refl _ wr).alloc (Nat.le_refl _) _
            have kSA := kSr.below' hBA
            have kPA := kPr.below' hBA
            have hoA := own_below hoi hBA
            have hgA : w5.grownBy A4 (some bs) := grown_trans hgr (grown_of_below _ hBA)
            have hwA : RowKit.Below w.heap.size w A4 := hBr.trans (hBA.mono hBr.size)
            have hLA := HL.out.below hwA
            have cXa := kX.cell
            have cPa := kPA.cell
            obtain ⟨bx, hbx⟩ : ∃ b, b = wr.heap.size := ⟨_, rfl⟩
            have hxs : bx ≠ bs := by have := kSr.lt; omega
            have hx5 : w5.heap.size ≤ bx := by have := hgr.size; omega
            rw [← hbx] at kX cXa
            obtain ⟨rl, hrl⟩ : ∃ b, b = r.lapsed := ⟨_, rfl⟩
            rw [← hrl]
            have Hrl := Lib.hid hrl
            clear hrl
            obtain ⟨lp, hlp⟩ : ∃ lp, lp = (!rl && decide (dl < x.hour)) := ⟨_, rfl⟩
            have Hlp := Lib.hid hlp
            have Hx := Lib.hid hx
            have Hcm := Lib.hid hcm
            have Hcq := Lib.hid hcq
            have Hfd := Lib.hid hfd
            have Hq := Lib.hid hq
            have Hqi := Lib.hid hqi
            have Hdl := Lib.hid hDl
            clear hlp hx hcm hcq hfd hq hqi hdrop hcalm kS5 kP5 kR5 hrow hbb kRr kPr hDl
            go_upto_region 13 with (first
              | (refine wpList_load_mid rfl 36 _ rfl b (off + k * 11) rfl (cD x) _ hrow' Tryz.underlying36 rfl (by kernel_rfl) ?_)
              | fail)
            rw [← hA4, ← hbx]
            clear hA4 hrow' hbx
            go_cut [54] (fun c54 W => c54 = .bool lp ∧ W = A4)
            case first =>
              clear Hrl kSA kPA hoA hgA hwA hLA kX Hq
              cases rl with
              | true =>
                go_wp2_with fail
                go_meet
                exact ⟨by rw [Hlp.out]; simp, rfl⟩
              | false =>
                go_wp2_with fail
                go_meet
                exact ⟨by rw [Hlp.out]; simp, rfl⟩
            case rest =>
              obtain ⟨rfl, hWA⟩ := hcut
              rw [hWA]
              clear hWA
              go_upto_if 54 with fail
              go_cut [12] (fun c12 W => c12 = .bool q.lapsed ∧ Blk W bs (cSs q.s) 113 ∧ A4.grownBy W (some bs))
              case first =>
                cases lp with
                | true =>
                  obtain ⟨hl1, hl2⟩ : r.lapsed = false ∧ dl < x.hour := by
                    have := Hlp.out
                    rw [Hrl.out] at this
                    have h2 := this.symm
                    simp only [Bool.and_eq_true, Bool.not_eq_true', decide_eq_true_eq] at h2
                    exact h2
                  obtain ⟨s1, hs1a, hs1b⟩ : ∃ s1, lapseD cl r.s = some s1 ∧ q = { r with s := s1, lapsed := true } := by
                    have h2 := Hq.out
                    unfold lapR at h2
                    rw [if_pos ⟨hl1, hl2⟩] at h2
                    cases hl : lapseD cl r.s with
                    | none => rw [hl] at h2; cases h2
                    | some s1 => rw [hl] at h2; simp only [Option.map_some, Option.some.injEq] at h2; exact ⟨s1, rfl, h2.symm⟩
                  have hcd := claimedD_any a n cap xs dl A4 hLA (by omega)
                  rw [← Hcl.out] at hcd
                  have Hs1a := Lib.hid hs1a
                  have Hs1b := Lib.hid hs1b
                  have hbA := kSA.lt
                  have z0 : ((0 : Int) != 0) = false := by decide
                  clear hl1 hl2 hs1a hs1b hoA hLA Hq
                  go_wp2_with (fail)
                  refine hcd.mono ?_
                  clear hcd
                  rintro e w8 ⟨v8, rfl, ho8, hB8⟩
                  rw [← flat_int] at ho8
                  obtain ⟨a8, c8, rfl, ha8, hL8⟩ := Lst.of_owns (k := 1) (enc := cI) (fun _ => rfl) (by omega) ho8 rfl
                  have hlp := lapseD_ok cl a8 cl.length c8 r.s s1 bs w8 hpo (kSA.below' hB8) hL8 (fun b off _ e => by obtain ⟨b', h1, h2⟩ := ha8 _ e; cases h2; omega) Hs1a.out
                  go_wp2_with (fail)
                  refine hlp.mono ?_
                  clear hlp
                  rintro e w9 ⟨rfl, kS9, hg9⟩
                  go_wp2_with (fail)
                  go_meet
                  exact ⟨by rw [Hs1b.out], by rw [Hs1b.out]; exact kS9, grown_trans (grown_of_below _ hB8) hg9⟩
                | false =>
                  have hqr : q = r := by
                    have h2 := Hq.out
                    unfold lapR at h2
                    rw [if_neg (fun h => by
                      have := Hlp.out
                      rw [Hrl.out, h.1, decide_eq_true h.2] at this
                      cases this)] at h2
                    simp only [Option.some.injEq] at h2
                    exact h2.symm
                  have Hqr := Lib.hid hqr
                  clear hqr Hq
                  go_wp2_with (fail)
                  go_meet
                  exact ⟨by rw [Hqr.out, Hrl.out], by rw [Hqr.out]; exact kSA, grown_refl _ _⟩
              case rest =>
                obtain ⟨rfl, kSq, hgq⟩ := hcut
                have kXq := kX.kept hgq (by simpa using hxs)
                have cXq := kXq.cell
                have hoq := own_keptB hoA hgq hs5
                have hgw : w5.grownBy wc (some bs) := grown_trans hgA hgq
                have hmk := fun W => movesK_any x.kind W
                have Hoq := Lib.hid hoq
                clear Hlp Hrl kSA kPA hoA hgA hwA hLA kX Hq hgq cXa cPa kSr hoi hBr hBA hoq
                cases hmv : movesD x.kind with
                | false =>
                  have hmr : mvR hour q x = q := by unfold mvR; rw [if_neg (fun h => by rw [hmv] at h; cases h.1)]
                  rw [hmr] at Hcq Hfd
                  rw [hmv] at hmk
                  clear hmv hmr
                  go_wp2_with (first
                    | (go_at_call 125; refine (hmk _).mono ?_; rintro e w9 ⟨rfl, rfl⟩)
                    | fail)
                  go_roundw
                  case rel => exact ⟨k + 1, q, by omega, by go_num, rfl, hpq, Hcq.out, Hfd.out, by rw [Hqi.out]; omega, by rw [Hqi.out]; exact Hoq.out, kSq, hgw⟩
                  case measure => simp [intOf]; omega
                | true =>
                  rw [hmv] at hmk
                  by_cases hh : x.hour ≤ hour
                  · have dh : decide (x.hour ≤ hour) = true := decide_eq_true hh
                    cases hdo : doD q.s x with
                    | some s' =>
                      have hmr : mvR hour q x = { q with s := s' } := by unfold mvR; rw [if_pos ⟨hmv, hh⟩, hdo]
                      rw [hmr] at Hcq Hfd
                      have hps := do_ok hpq hmx hmv hdo
                      have hd := doD_some hpq hmx hmv hdo bs wc kSq
                      clear hmv hmr hh hdo
                      go_wp2_with (first
                        | (go_at_call 125; refine (hmk _).mono ?_; rintro e w9 ⟨rfl, rfl⟩)
                        | (refine wpList_load_mid rfl 36 _ rfl bx 0 rfl (cD x) _ (kXq.range 0 _ (fun j v h => by simpa using h)) Tryz.underlying36 rfl (by kernel_rfl) ?_)
                        | (go_at_call 152; refine hd.mono ?_; clear hd; rintro e w9 ⟨rfl, kS9, hg9⟩)
                        | fail)
                      go_roundw
                      case rel => exact ⟨k + 1, { q with s := s' }, by omega, by go_num, rfl, hps, Hcq.out, Hfd.out, by show q.idle.length ≤ k + 1; rw [Hqi.out]; omega, by show World.ownsRow _ _ _ _ _ q.idle.length (q.idle.flatMap cI); rw [Hqi.out]; exact own_keptB Hoq.out hg9 hs5, kS9, grown_trans hgw hg9⟩
                      case measure => simp [intOf]; omega
                    | none =>
                      have hmr : mvR hour q x = { q with idle := q.idle ++ [x.id] } := by unfold mvR; rw [if_pos ⟨hmv, hh⟩, hdo]
                      rw [hmr] at Hcq Hfd
                      have hz0 : (fr q.s x.from_).num = 0 := by
                        have := Hcm.out
                        rw [hmv, dh, hdo] at this
                        simpa using this
                      have hd := doD_idle hpq hmx hmv hz0 bs wc kSq
                      clear hmv hmr hh hdo hz0
                      go_wp2_with (first
                        | (go_at_call 125; refine (hmk _).mono ?_; rintro e w9 ⟨rfl, rfl⟩)
                        | (refine wpList_load_mid rfl 36 _ rfl bx 0 rfl (cD x) _ (kXq.range 0 _ (fun j v h => by simpa using h)) Tryz.underlying36 rfl (by kernel_rfl) ?_)
                        | (go_at_call 152; refine hd.mono ?_; clear hd; rintro e w9 ⟨rfl, hB9⟩; have cX9 := (kXq.below' hB9).cell; have ho9 := own_below Hoq.out hB9; have hsz9 := hB9.size; have hszw := hgw.size)
                        | (at_builtin; refine wpList_append_list rfl _ _ _ rfl w5.heap.size 3 k0 _ 1 8 Tryz.underlying30 hk0 hy0 hy1 hy2 rfl (by omega) _ _ _ rfl (ho9.alloc _) cI (fun _ => rfl) cI_ones _ 1 _ [x.id] rfl (Lst.one1 (Blk.new _ _ _)) (by unfold maxLen; omega) (by omega) (by simp; omega) ?_; intro v9 w10 hown9 hgrow9)
                        | fail)
                      have kS10 : Blk w10 bs (cSs q.s) 113 := ((kSq.below' hB9).alloc _).kept hgrow9 (fun e => by have := own_ge' ho9 bs e.symm; omega)
                      have hg10 : w5.grownBy w10 (some bs) := by
                        have h1 : w5.grownBy w9 (some bs) := grown_trans hgw (grown_of_below _ hB9)
                        refine ⟨hgrow9.os.trans h1.os, hgrow9.tape.trans h1.tape, hgrow9.output.trans h1.output, ?_, fun b hb hne => ?_⟩
                        · have h2 := hgrow9.size; have h3 := h1.size; rw [World.size_alloc] at h2; omega
                        · refine (hgrow9.block b (by have := h1.size; rw [World.size_alloc]; omega) (fun e => by have := own_ge' ho9 b e.symm; omega)).trans ?_
                          exact (Below.heap_alloc _ _ _ (by have := h1.size; omega)).trans (h1.block b hb hne)
                      go_roundw
                      case rel =>
                        refine ⟨k + 1, { q with idle := q.idle ++ [x.id] }, by omega, by go_num, rfl, hpq, Hcq.out, Hfd.out, by show (q.idle ++ [x.id]).length ≤ k + 1; rw [List.length_append, Hqi.out]; simp; omega, ?_, kS10, hg10⟩
                        show World.ownsRow _ _ _ _ _ (q.idle ++ [x.id]).length ((q.idle ++ [x.id]).flatMap cI)
                        rw [List.length_append, List.flatMap_append, Hqi.out]
                        exact hown9
                      case measure => simp [intOf]; omega
                  · have dh : decide (x.hour ≤ hour) = false := decide_eq_false hh
                    have hmr : mvR hour q x = q := by unfold mvR; rw [if_neg (fun h => hh h.2)]
                    rw [hmr] at Hcq Hfd
                    clear hmv hmr hh
                    go_wp2_with (first
                      | (go_at_call 125; refine (hmk _).mono ?_; rintro e w9 ⟨rfl, rfl⟩)
                      | fail)
                    go_roundw
                    case rel => exact ⟨k + 1, q, by omega, by go_num, rfl, hpq, Hcq.out, Hfd.out, by rw [Hqi.out]; omega, by rw [Hqi.out]; exact Hoq.out, kSq, hgw⟩
                    case measure => simp [intOf]; omega
          · obtain rfl : k = n + 1 := by omega
            rw [List.drop_of_length_le (by omega)] at hfd
            have hrf : r = rf := by simpa using hfd
            have hso := sortOwn w5.heap.size r.idle.length _ r.idle wr (by omega) (by rw [← flat_int]; exact hoi)
            have Hrf := Lib.hid hrf
            clear hrf hfd hcalm kP5 kR5 kS5
            go_wp2_with (fail)
            refine hso.mono ?_
            clear hso
            rintro e w7 ⟨rfl, ho7, hg7⟩
            have hne7 : ∀ b, b < w5.heap.size → some b ≠ u11.ownBlock := fun b hb e => by have := own_ge' hoi b e.symm; omega
            have kS7 := kSr.kept hg7 (hne7 bs (by have := hgr.size; omega))
            have kR7 := kRr.kept hg7 (hne7 br (by omega))
            have hl41 := hpo.1
            have hsz : (Tryz.prog.info? 113).map (·.size) = some (r.s.flatMap cF).length := by rw [flat_len cF 2 (fun _ => rfl), hl41]; kernel_rfl
            have hsz2 : (Tryz.prog.info? 113).map (·.size) = some (cSs r.s).size := by rw [cSs_size r.s hl41]; kernel_rfl
            go_wp2_with (first
              | (refine wpList_load_mid rfl 113 _ rfl bs 0 rfl (r.s.flatMap cF) _ (kS7.range 0 _ (fun j v h => by simpa using h)) Tryz.underlying113 rfl hsz ?_)
              | (refine wpList_store_mid rfl 113 _ _ rfl br 0 (cSs r.s) rfl rfl (kR7.there 0 _ (by rw [cSs_size r.s hl41, cSs_size _ (stI_len (by omega))]; omega)) hsz2 (cSs_one r.s) ?_)
              | fail)
            have kF : Blk (w7.setCells br 0 (r.s.flatMap cF)) br (cSs r.s) 113 := by
              have q := kR7.setCells 0 (r.s.flatMap cF)
              have e : setAll (cSs (stI 0)) 0 (r.s.flatMap cF) = cSs r.s := setAll_whole ((stI 0).flatMap cF) (r.s.flatMap cF) (by rw [flat_len cF 2 (fun _ => rfl), flat_len cF 2 (fun _ => rfl), hl41, stI_len (by omega)])
              rwa [e] at q
            (try simp only [Exit.inBlock, Exit.then])
            refine bodyPost_ret (results_cell_tmp_tmp rfl _ (w7.setCells br 0 (r.s.flatMap cF)) br 113 (r.s.flatMap cF) _ rfl kF Tryz.underlying113 rfl hsz) rfl ⟨u11, by rw [← Hrf.out]; rfl, ?_, ?_⟩
            · rw [← Hrf.out, ← sortI_merge]
              exact ownsRow_base_a (own_setCellsK ho7 (by omega) 0 _) hB5.size
            · exact below_setCells (below_of_grown hBr (Nat.le_refl _) hg7 (fun r e => by have := own_ge' hoi r e; have := hB5.size; omega)) hwr 0 _

end Go.Proofs.YtmeomhojbobpbaaGreatDoor
