import Derived.Test.YtkeppoiomjhkpaaGreatDoorPart16
import Derived.Test.YtkeppoiomjhkpaaGreatDoorPart15
import Derived.Recover
import Derived.Test.YtkeppoiomjhkpaaGreatDoorPart06
import Derived.Test.YtkeppoiomjhkpaaGreatDoorPart01
import Derived.Test.YtkeppoiomjhkpaaGreatDoorPart02
/-
  Walks: award.ReadSale$1 at a line that no well-formed sale writes.
-/
namespace Go.Proofs.YtkeppoiomjhkpaaGreatDoor
open Go.RowKit Lg Go.Sort Go.Shelf

theorem Rdy.numOk {W : World} {bX bL bs bw n : Nat} {line : ByteArray} {ws : List Bs} (h : Rdy W bX bL bs bw n line ws) (i : Nat) (s : Bs) (v : Int) (hi : ws[i]? = some s) (hv : numOf s = some v) :
    ∀ W', W.grownBy W' (some bX) → Calls Tryz.prog 85 #[.int .i64 i, .pointer (some ⟨bw, 0, none⟩)] W' fun e w' => e = .returned (.int .i64 v) ∧ RowKit.Below W'.heap.size W' w' ∧ W.grownBy w' (some bX) := fun W' hg => by
  have h' := h.grown hg
  have hlt : i < n := by rw [← h.len]; exact (List.getElem?_eq_some_iff.1 hi).1
  have hsm : (ofL s).size ≤ 1000 := h.sm _ (List.mem_of_getElem? hi)
  refine (number_ok bw bs 0 n n i (ofL s) v W' h'.vs h'.sl (by simpa using h'.wd i _ hi) hlt hsm (by simpa using hv)).mono ?_
  rintro e w' ⟨rfl, hB⟩
  exact ⟨rfl, hB, grown_trans hg (grown_of_below _ hB)⟩

theorem Rdy.numUp {W : World} {bX bL bs bw n : Nat} {line : ByteArray} {ws : List Bs} (h : Rdy W bX bL bs bw n line ws) (i : Nat) (s : Bs) (hi : ws[i]? = some s) (hv : numOf s = none) :
    ∀ W', W.grownBy W' (some bX) → Calls Tryz.prog 85 #[.int .i64 i, .pointer (some ⟨bw, 0, none⟩)] W' fun e w' => e = .panicked [{ v := nfV, recovered := false }] ∧ W.grownBy w' (some bX) := fun W' hg => by
  have h' := h.grown hg
  have hlt : i < n := by rw [← h.len]; exact (List.getElem?_eq_some_iff.1 hi).1
  have hsm : (ofL s).size ≤ 1000 := h.sm _ (List.mem_of_getElem? hi)
  refine (number_up bw bs 0 n n i (ofL s) W' h'.vs h'.sl (by simpa using h'.wd i _ hi) hlt hsm (by simpa using hv)).mono ?_
  rintro e w' ⟨rfl, hB⟩
  exact ⟨rfl, grown_trans hg (grown_of_below _ hB)⟩

set_option maxRecDepth 100000 in
set_option maxHeartbeats 6400000 in
theorem readSale1_up (line : ByteArray) (hno : ∀ x, saleOk x = true → lineS x ≠ line) (bX bL bs bw n : Nat) (ws : List Bs) (W : World) (hR : Rdy W bX bL bs bw n line ws) (hn : 4 ≤ n) (kX : Blk W bX #[.int .i64 0, .int .i64 0, .int .i64 0, .int .i64 0, .int .i64 0, .int .i64 0, .int .i64 0, .int .i64 0, .int .i64 0] 24) :
    Calls Tryz.prog 51 #[.slice (some ⟨bs, 0, none⟩) n n, .func (.func 85) #[] #[.pointer (some ⟨bw, 0, none⟩)], .pointer (some ⟨bX, 0, none⟩), .pointer (some ⟨bL, 0, none⟩)] W fun e w' => e = .panicked [{ v := nfV, recovered := false }] ∧ W.grownBy w' (some bX) := by
  have hlen := hR.len
  obtain ⟨s0, hs0⟩ : ∃ s, ws[0]? = some s := ⟨ws[0]'(by omega), by simp⟩
  obtain ⟨s1, hs1⟩ : ∃ s, ws[1]? = some s := ⟨ws[1]'(by omega), by simp⟩
  obtain ⟨s2, hs2⟩ : ∃ s, ws[2]? = some s := ⟨ws[2]'(by omega), by simp⟩
  obtain ⟨s3, hs3⟩ : ∃ s, ws[3]? = some s := ⟨ws[3]'(by omega), by simp⟩
  have HR := Lib.hid hR
  have Hno := Lib.hid hno
  have Hs0 := Lib.hid hs0
  have Hs1 := Lib.hid hs1
  have Hs2 := Lib.hid hs2
  have Hs3 := Lib.hid hs3
  have Hlen := Lib.hid hlen
  have hnz : (4 : Int) ≤ (n : Int) := by omega
  have hm2 : (2 : Int) < (n : Int) := by omega
  clear hR hno hs0 hs1 hs2 hs3 hlen
  go_enter Tryz.func51, Tryz.ntmps51
  have hG := World.grownBy.refl W (some bX)
  go_wp2_with (fail)
  cases hq0 : numOf s0 with
  | none =>
    refine (HR.out.numUp 0 s0 Hs0.out hq0 _ hG).mono ?_
    rintro e w9 ⟨rfl, hG9⟩
    exact ⟨rfl, rfl, hG9⟩
  | some v0 =>
    refine (HR.out.numOk 0 s0 v0 Hs0.out hq0 _ hG).mono ?_
    rintro e wq0 ⟨rfl, hBq, hG⟩
    have kX := kX.below' hBq
    clear hBq hq0
    go_wp2_with (fail)
    cases hq1 : numOf s1 with
    | none =>
      refine (HR.out.numUp 1 s1 Hs1.out hq1 _ hG).mono ?_
      rintro e w9 ⟨rfl, hG9⟩
      exact ⟨rfl, rfl, hG9⟩
    | some v1 =>
      refine (HR.out.numOk 1 s1 v1 Hs1.out hq1 _ hG).mono ?_
      rintro e wq1 ⟨rfl, hBq, hG⟩
      have kX := kX.below' hBq
      clear hBq hq1
      have e5 := kX.cell
      have g5 := kX.frozen
      have l5 := kX.lt
      go_upto_region 1 with fail
      obtain ⟨wsa, hwsa⟩ : ∃ ws, ws = ((wq1).setCell ⟨bX, 0, none⟩ (.int .i64 v0)).setCell ⟨bX, 1, none⟩ (.int .i64 v1) := ⟨_, rfl⟩
      rw [← hwsa]
      have kX : Blk wsa bX #[.int .i64 v0, .int .i64 v1, .int .i64 0, .int .i64 0, .int .i64 0, .int .i64 0, .int .i64 0, .int .i64 0, .int .i64 0] 24 := hwsa ▸ ((kX.setCell 0 (.int .i64 v0)).setCell 1 (.int .i64 v1))
      have hG : W.grownBy wsa (some bX) := hwsa ▸ (grown_trans (grown_trans hG (grown_set _ bX 0 (.int .i64 v0))) (grown_set _ bX 1 (.int .i64 v1)))
      clear hwsa e5 g5 l5
      have d2 := (HR.out.grown hG).wd 2 s2 Hs2.out
      obtain ⟨b2, hb2⟩ : ∃ b2, b2 = ofL s2 := ⟨_, rfl⟩
      rw [← hb2] at d2
      by_cases hv : s2 = voidL
      · have hv2 : (b2.toList == [118, 111, 105, 100]) = true := by rw [hb2, hv, ByteArray.toList_eq]; rfl
        clear hv hb2
        go_wp2_with (fail)
        cases hq3 : numOf s3 with
        | none =>
          refine (HR.out.numUp 3 s3 Hs3.out hq3 _ hG).mono ?_
          rintro e w9 ⟨rfl, hG9⟩
          exact ⟨rfl, rfl, hG9⟩
        | some v3 =>
          refine (HR.out.numOk 3 s3 v3 Hs3.out hq3 _ hG).mono ?_
          rintro e wq2 ⟨rfl, hBq, hG⟩
          have kX := kX.below' hBq
          clear hBq hq3
          have e5 := kX.cell
          have g5 := kX.frozen
          have l5 := kX.lt
          go_upto_region 5 with fail
          obtain ⟨wsb, hwsb⟩ : ∃ ws, ws = (wq2).setCell ⟨bX, 8, none⟩ (.int .i64 v3) := ⟨_, rfl⟩
          rw [← hwsb]
          have kX : Blk wsb bX #[.int .i64 v0, .int .i64 v1, .int .i64 0, .int .i64 0, .int .i64 0, .int .i64 0, .int .i64 0, .int .i64 0, .int .i64 v3] 24 := hwsb ▸ (kX.setCell 8 (.int .i64 v3))
          have hG : W.grownBy wsb (some bX) := hwsb ▸ (grown_trans hG (grown_set _ bX 8 (.int .i64 v3)))
          clear hwsb e5 g5 l5
          obtain ⟨x, hx⟩ : ∃ x : Sale, x = ⟨v0, v1, 0, 0, 0, 0, 0, 0, v3⟩ := ⟨_, rfl⟩
          have kX : Blk wsb bX (cS x).toArray 24 := by rw [hx]; exact kX
          have hwr := writeSale_any x wsb (HR.out.grown hG).vs
          obtain ⟨t, ht⟩ : ∃ t, t = writeS x := ⟨_, rfl⟩
          rw [← ht] at hwr
          have hcs : (t.2 = 1 ∧ t.1 = ⟨#[]⟩) ∨ (t.2 = 0 ∧ t.1 ≠ line) := by
            unfold writeS at ht
            cases ho : saleOk x with
            | true => rw [ho] at ht; rw [ht]; exact .inr ⟨rfl, Hno.out x ho⟩
            | false => rw [ho] at ht; rw [ht]; exact .inl ⟨rfl, rfl⟩
          clear hx ht
          obtain ⟨tl, te⟩ := t
          dsimp only at hwr hcs
          have e5 := kX.cell
          have g5 := kX.frozen
          have l5 := kX.lt
          go_wp2_with (first
            | (refine wpList_load_mid rfl 24 _ rfl bX 0 rfl (cS x) _ (kX.range 0 _ (fun j v h => by simpa using h)) Tryz.underlying24 rfl (by kernel_rfl) ?_)
            | fail)
          refine hwr.mono ?_
          clear hwr
          rintro e w9 ⟨rfl, hB9⟩
          have hG := grown_trans hG (grown_of_below _ hB9)
          have cl := (HR.out.grown hG).ln
          clear e5 g5 l5 hB9
          rcases hcs with ⟨rfl, rfl⟩ | ⟨rfl, hne⟩
          · go_wp2_with (go_at_call 52; refine (unless_up _).mono ?_; rintro e w4 ⟨rfl, rfl⟩)
            exact ⟨rfl, rfl, hG⟩
          · have hq : (tl.toList == line.toList) = false := by
              have := toList_beq tl line
              rw [decide_eq_false hne] at this
              exact this
            clear hne
            go_wp2_with (go_at_call 52; refine (unless_up _).mono ?_; rintro e w4 ⟨rfl, rfl⟩)
            exact ⟨rfl, rfl, hG⟩
      · have hv2 : (b2.toList == [118, 111, 105, 100]) = false := by
          rw [hb2]
          simp only [ByteArray.toList_eq, beq_eq_false_iff_ne]; exact hv
        clear hv hb2
        by_cases h9 : n = 9
        · subst h9
          obtain ⟨s4, hs4⟩ : ∃ s, ws[4]? = some s := ⟨ws[4]'(by rw [Hlen.out]; omega), by simp⟩
          have Hs4 := Lib.hid hs4
          clear hs4
          obtain ⟨s5, hs5⟩ : ∃ s, ws[5]? = some s := ⟨ws[5]'(by rw [Hlen.out]; omega), by simp⟩
          have Hs5 := Lib.hid hs5
          clear hs5
          obtain ⟨s6, hs6⟩ : ∃ s, ws[6]? = some s := ⟨ws[6]'(by rw [Hlen.out]; omega), by simp⟩
          have Hs6 := Lib.hid hs6
          clear hs6
          obtain ⟨s7, hs7⟩ : ∃ s, ws[7]? = some s := ⟨ws[7]'(by rw [Hlen.out]; omega), by simp⟩
          have Hs7 := Lib.hid hs7
          clear hs7
          obtain ⟨s8, hs8⟩ : ∃ s, ws[8]? = some s := ⟨ws[8]'(by rw [Hlen.out]; omega), by simp⟩
          have Hs8 := Lib.hid hs8
          clear hs8
          go_upto_region 3 with fail
          go_wp2_with (first | (go_at_call 52; refine (unless_ok _).mono ?_; rintro e w4 ⟨rfl, rfl⟩) | fail)
          cases hq2 : numOf s2 with
          | none =>
            refine (HR.out.numUp 2 s2 Hs2.out hq2 _ hG).mono ?_
            rintro e w9 ⟨rfl, hG9⟩
            exact ⟨rfl, rfl, hG9⟩
          | some v2 =>
            refine (HR.out.numOk 2 s2 v2 Hs2.out hq2 _ hG).mono ?_
            rintro e wq2 ⟨rfl, hBq, hG⟩
            have kX := kX.below' hBq
            clear hBq hq2
            go_wp2_with (fail)
            cases hq4 : numOf s4 with
            | none =>
              refine (HR.out.numUp 4 s4 Hs4.out hq4 _ hG).mono ?_
              rintro e w9 ⟨rfl, hG9⟩
              exact ⟨rfl, rfl, hG9⟩
            | some v4 =>
              refine (HR.out.numOk 4 s4 v4 Hs4.out hq4 _ hG).mono ?_
              rintro e wq3 ⟨rfl, hBq, hG⟩
              have kX := kX.below' hBq
              clear hBq hq4
              go_wp2_with (fail)
              cases hq5 : numOf s5 with
              | none =>
                refine (HR.out.numUp 5 s5 Hs5.out hq5 _ hG).mono ?_
                rintro e w9 ⟨rfl, hG9⟩
                exact ⟨rfl, rfl, hG9⟩
              | some v5 =>
                refine (HR.out.numOk 5 s5 v5 Hs5.out hq5 _ hG).mono ?_
                rintro e wq4 ⟨rfl, hBq, hG⟩
                have kX := kX.below' hBq
                clear hBq hq5
                go_wp2_with (fail)
                cases hq6 : numOf s6 with
                | none =>
                  refine (HR.out.numUp 6 s6 Hs6.out hq6 _ hG).mono ?_
                  rintro e w9 ⟨rfl, hG9⟩
                  exact ⟨rfl, rfl, hG9⟩
                | some v6 =>
                  refine (HR.out.numOk 6 s6 v6 Hs6.out hq6 _ hG).mono ?_
                  rintro e wq5 ⟨rfl, hBq, hG⟩
                  have kX := kX.below' hBq
                  clear hBq hq6
                  go_wp2_with (fail)
                  cases hq7 : numOf s7 with
                  | none =>
                    refine (HR.out.numUp 7 s7 Hs7.out hq7 _ hG).mono ?_
                    rintro e w9 ⟨rfl, hG9⟩
                    exact ⟨rfl, rfl, hG9⟩
                  | some v7 =>
                    refine (HR.out.numOk 7 s7 v7 Hs7.out hq7 _ hG).mono ?_
                    rintro e wq6 ⟨rfl, hBq, hG⟩
                    have kX := kX.below' hBq
                    clear hBq hq7
                    go_wp2_with (fail)
                    cases hq8 : numOf s8 with
                    | none =>
                      refine (HR.out.numUp 8 s8 Hs8.out hq8 _ hG).mono ?_
                      rintro e w9 ⟨rfl, hG9⟩
                      exact ⟨rfl, rfl, hG9⟩
                    | some v8 =>
                      refine (HR.out.numOk 8 s8 v8 Hs8.out hq8 _ hG).mono ?_
                      rintro e wq7 ⟨rfl, hBq, hG⟩
                      have kX := kX.below' hBq
                      clear hBq hq8
                      have e5 := kX.cell
                      have g5 := kX.frozen
                      have l5 := kX.lt
                      go_upto_region 5 with fail
                      obtain ⟨wsb, hwsb⟩ : ∃ ws, ws = ((((((wq7).setCell ⟨bX, 2, none⟩ (.int .i64 v2)).setCell ⟨bX, 3, none⟩ (.int .i64 v4)).setCell ⟨bX, 4, none⟩ (.int .i64 v5)).setCell ⟨bX, 5, none⟩ (.int .i64 v6)).setCell ⟨bX, 6, none⟩ (.int .i64 v7)).setCell ⟨bX, 7, none⟩ (.int .i64 v8) := ⟨_, rfl⟩
                      rw [← hwsb]
                      have kX : Blk wsb bX #[.int .i64 v0, .int .i64 v1, .int .i64 v2, .int .i64 v4, .int .i64 v5, .int .i64 v6, .int .i64 v7, .int .i64 v8, .int .i64 0] 24 := hwsb ▸ ((((((kX.setCell 2 (.int .i64 v2)).setCell 3 (.int .i64 v4)).setCell 4 (.int .i64 v5)).setCell 5 (.int .i64 v6)).setCell 6 (.int .i64 v7)).setCell 7 (.int .i64 v8))
                      have hG : W.grownBy wsb (some bX) := hwsb ▸ (grown_trans (grown_trans (grown_trans (grown_trans (grown_trans (grown_trans hG (grown_set _ bX 2 (.int .i64 v2))) (grown_set _ bX 3 (.int .i64 v4))) (grown_set _ bX 4 (.int .i64 v5))) (grown_set _ bX 5 (.int .i64 v6))) (grown_set _ bX 6 (.int .i64 v7))) (grown_set _ bX 7 (.int .i64 v8)))
                      clear hwsb e5 g5 l5
                      obtain ⟨x, hx⟩ : ∃ x : Sale, x = ⟨v0, v1, v2, v4, v5, v6, v7, v8, 0⟩ := ⟨_, rfl⟩
                      have kX : Blk wsb bX (cS x).toArray 24 := by rw [hx]; exact kX
                      have hwr := writeSale_any x wsb (HR.out.grown hG).vs
                      obtain ⟨t, ht⟩ : ∃ t, t = writeS x := ⟨_, rfl⟩
                      rw [← ht] at hwr
                      have hcs : (t.2 = 1 ∧ t.1 = ⟨#[]⟩) ∨ (t.2 = 0 ∧ t.1 ≠ line) := by
                        unfold writeS at ht
                        cases ho : saleOk x with
                        | true => rw [ho] at ht; rw [ht]; exact .inr ⟨rfl, Hno.out x ho⟩
                        | false => rw [ho] at ht; rw [ht]; exact .inl ⟨rfl, rfl⟩
                      clear hx ht
                      obtain ⟨tl, te⟩ := t
                      dsimp only at hwr hcs
                      have e5 := kX.cell
                      have g5 := kX.frozen
                      have l5 := kX.lt
                      go_wp2_with (first
                        | (refine wpList_load_mid rfl 24 _ rfl bX 0 rfl (cS x) _ (kX.range 0 _ (fun j v h => by simpa using h)) Tryz.underlying24 rfl (by kernel_rfl) ?_)
                        | fail)
                      refine hwr.mono ?_
                      clear hwr
                      rintro e w9 ⟨rfl, hB9⟩
                      have hG := grown_trans hG (grown_of_below _ hB9)
                      have cl := (HR.out.grown hG).ln
                      clear e5 g5 l5 hB9
                      rcases hcs with ⟨rfl, rfl⟩ | ⟨rfl, hne⟩
                      · go_wp2_with (go_at_call 52; refine (unless_up _).mono ?_; rintro e w4 ⟨rfl, rfl⟩)
                        exact ⟨rfl, rfl, hG⟩
                      · have hq : (tl.toList == line.toList) = false := by
                          have := toList_beq tl line
                          rw [decide_eq_false hne] at this
                          exact this
                        clear hne
                        go_wp2_with (go_at_call 52; refine (unless_up _).mono ?_; rintro e w4 ⟨rfl, rfl⟩)
                        exact ⟨rfl, rfl, hG⟩
        · have hn9 : ((n : Int) == 9) = false := by simp; omega
          go_upto_region 3 with fail
          go_wp2_with (first | (go_at_call 52; refine (unless_up _).mono ?_; rintro e w4 ⟨rfl, rfl⟩) | fail)
          exact ⟨rfl, rfl, hG⟩

end Go.Proofs.YtkeppoiomjhkpaaGreatDoor

/-
  Walks: award.read: giving up, and what turns it into an error.
-/
namespace Go.Proofs.YtkeppoiomjhkpaaGreatDoor
open Go.RowKit Lg Go.Sort Go.Shelf

set_option maxRecDepth 100000 in
set_option maxHeartbeats 400000 in
theorem rcatch_up (B : Nat) (x : Int) (older : List PanicEntry) (w : World) (hb : Blk w B #[.int .i64 x] 27) :
    CallsD Tryz.prog 83 #[.pointer (some ⟨B, 0, none⟩)] (.panicking ({ v := nfV, recovered := false } :: older)) w fun e u' w' =>
      e = .returned (.tuple #[]) ∧ u' = .panicking ({ v := nfV, recovered := true } :: older) ∧ w' = (w.alloc (.cells #[] 130)).setCell ⟨B, 0, none⟩ (.int .i64 4) := by
  have hta : ∀ (v : Value) (w : World), (Instr.typeAssert (.iface 130 v) 20 130 true).run Tryz.prog w = .ok (.tuple #[v, .bool true]) w := fun _ _ => by kernel_rfl
  have hc := fun o => (hb.alloc o).cell 0
  have hf := fun o => (hb.alloc o).frozen 0
  refine callsD_of_wpS Tryz.func83 rfl fun c₀ cs hu => ?_
  simp only [Tryz.ntmps83, List.size_toArray, List.length_cons, List.length_nil, Nat.reduceAdd, Nat.reduceSub, Array.replicate_succ, Array.replicate_zero, List.push_toArray, List.append_toArray, List.nil_append, List.cons_append]
  apply wpS_seq
  apply wpS_region
  simp [wpOpsS, go_sem, recoverD, hu, Exit.thenS]
  refine wpS_of_wp ?_
  go_wp2
  all_goals (cases c₀; simp_all [bodyPostS, results, Tryz.results83])

set_option maxRecDepth 100000 in
theorem rcatch_none (B : Nat) (w : World) :
    CallsD Tryz.prog 83 #[.pointer (some ⟨B, 0, none⟩)] .returning w fun e u' w' => e = .returned (.tuple #[]) ∧ u' = .returning ∧ w' = w := by
  refine callsD_of_wpS Tryz.func83 rfl fun c₀ cs hu => ?_
  simp only [Tryz.ntmps83, List.size_toArray, List.length_cons, List.length_nil, Nat.reduceAdd, Nat.reduceSub, Array.replicate_succ, Array.replicate_zero, List.push_toArray, List.append_toArray, List.nil_append, List.cons_append]
  apply wpS_seq
  apply wpS_region
  simp [wpOpsS, go_sem, recoverD, hu, Exit.thenS]
  refine wpS_of_wp ?_
  go_wp2
  all_goals (cases c₀; simp_all [bodyPostS, results, Tryz.results83])

/-- The world in which the words are read: the error, the words, the slice. -/
def readW (w : World) (line : ByteArray) : World :=
  ((w.alloc (.cells #[.int .i64 0] 27)).alloc (.cells ((Lib.splitB ⟨#[32]⟩ 0 (Lib.countB line ⟨#[32]⟩) line).map Value.string).toArray 9)).alloc (.cells #[.slice (some ⟨w.heap.size + 1, 0, none⟩) (Lib.countB line ⟨#[32]⟩ + 1) (Lib.countB line ⟨#[32]⟩ + 1)] 91)

/-- The words and what tells their numbers, as what is run gets them. -/
def readArgs (w : World) (line : ByteArray) : Array Value :=
  #[.slice (some ⟨w.heap.size + 1, 0, none⟩) (Lib.countB line ⟨#[32]⟩ + 1) (Lib.countB line ⟨#[32]⟩ + 1), .func (.func 85) #[] #[.pointer (some ⟨w.heap.size + 1 + 1, 0, none⟩)]]

set_option maxRecDepth 100000 in
set_option maxHeartbeats 1600000 in
theorem read_ok (line : ByteArray) (g : Nat) (cb : Array Value) (eg : ∀ args w, (callFunc g args).run Tryz.prog w = .ok (.enter g args) w) (w : World) (hV : Vs w) (R : World → Prop) (hs : line.size ≤ 1000) (hN : 3 ≤ Lib.countB line ⟨#[32]⟩)
    (hg : Calls Tryz.prog g (readArgs w line ++ cb) (readW w line) fun e w' => e = .returned (.tuple #[]) ∧ Blk w' w.heap.size #[.int .i64 0] 27 ∧ R w') :
    Calls Tryz.prog 50 #[.string line, .func (.func g) #[] cb] w fun e w' => e = .returned (.int .i64 0) ∧ ∃ w1, R w1 ∧ w' = w1.setCell ⟨w.heap.size, 0, none⟩ (.int .i64 0) := by
  have hmf : ∀ (fn : Fn) (first cap : Array Value) (w : World), (Instr.makeFunc fn first cap).run Tryz.prog w = .ok (.func fn first cap) w := fun _ _ _ _ => rfl
  have hV1 : Vs (w.alloc (.cells #[.int .i64 0] 27)) := hV.below ((Below.refl _ w).alloc (Nat.le_refl _) _)
  obtain ⟨m, hm⟩ := hV1.max
  have hSp := Tryz.strings_Split line ⟨#[32]⟩ m _ (by omega) hm (by decide)
  obtain ⟨N, hNN⟩ : ∃ N, N = Lib.countB line ⟨#[32]⟩ := ⟨_, rfl⟩
  unfold readArgs readW at hg
  rw [← hNN] at hSp hN hg
  have hNz : (4 : Int) ≤ (N : Int) + 1 := by omega
  clear hV hV1 hm hNN
  go_enter_defers Tryz.func50, Tryz.ntmps50
  go_wp2_with (fail)
  refine hSp.mono ?_
  clear hSp
  rintro e w1 ⟨rfl, rfl⟩
  go_wp2_with (go_at_call 52; refine (unless_ok _).mono ?_; rintro e w4 ⟨rfl, rfl⟩)
  refine hg.mono ?_
  rintro e w1 ⟨rfl, hb, hr⟩
  have c1 : w1.cell? ⟨w.heap.size, 0, none⟩ = some (.int .i64 0) := hb.cell 0
  have f1 := hb.frozen 0
  have HR := Lib.hid hr; clear hr
  clear hg
  go_wp2
  refine leaves_cons (f := 83) (args := #[.pointer (some ⟨w.heap.size, 0, none⟩)]) (by simp) (by simp [go_sem]) ?_
  refine (rcatch_none w.heap.size _).mono ?_
  rintro e u' w'' ⟨rfl, rfl, rfl⟩
  have hb2 := hb.setCell 0 (.int .i64 0)
  have c2 : (w1.setCell ⟨w.heap.size, 0, none⟩ (.int .i64 0)).cell? ⟨w.heap.size, 0, none⟩ = some (.int .i64 0) := hb2.cell 0
  simp only [Leaves, settle]
  refine ⟨.int .i64 0, ?_, rfl, w1, HR.out, rfl⟩
  simp [results, Tryz.results50, go_sem, c2]

set_option maxRecDepth 100000 in
set_option maxHeartbeats 1600000 in
/-- What is run gives up. -/
theorem read_up (line : ByteArray) (g : Nat) (cb : Array Value) (eg : ∀ args w, (callFunc g args).run Tryz.prog w = .ok (.enter g args) w) (w : World) (hV : Vs w) (R : World → Prop) (hs : line.size ≤ 1000) (hN : 3 ≤ Lib.countB line ⟨#[32]⟩)
    (hg : Calls Tryz.prog g (readArgs w line ++ cb) (readW w line) fun e w' => e = .panicked [{ v := nfV, recovered := false }] ∧ Blk w' w.heap.size #[.int .i64 0] 27 ∧ R w') :
    Calls Tryz.prog 50 #[.string line, .func (.func g) #[] cb] w fun e w' => e = .returned (.int .i64 4) ∧ ∃ w1, R w1 ∧ w' = (w1.alloc (.cells #[] 130)).setCell ⟨w.heap.size, 0, none⟩ (.int .i64 4) := by
  have hmf : ∀ (fn : Fn) (first cap : Array Value) (w : World), (Instr.makeFunc fn first cap).run Tryz.prog w = .ok (.func fn first cap) w := fun _ _ _ _ => rfl
  have hV1 : Vs (w.alloc (.cells #[.int .i64 0] 27)) := hV.below ((Below.refl _ w).alloc (Nat.le_refl _) _)
  obtain ⟨m, hm⟩ := hV1.max
  have hSp := Tryz.strings_Split line ⟨#[32]⟩ m _ (by omega) hm (by decide)
  obtain ⟨N, hNN⟩ : ∃ N, N = Lib.countB line ⟨#[32]⟩ := ⟨_, rfl⟩
  unfold readArgs readW at hg
  rw [← hNN] at hSp hN hg
  have hNz : (4 : Int) ≤ (N : Int) + 1 := by omega
  clear hV hV1 hm hNN
  go_enter_defers Tryz.func50, Tryz.ntmps50
  go_wp2_with (fail)
  refine hSp.mono ?_
  clear hSp
  rintro e w1 ⟨rfl, rfl⟩
  go_wp2_with (go_at_call 52; refine (unless_ok _).mono ?_; rintro e w4 ⟨rfl, rfl⟩)
  refine hg.mono ?_
  rintro e w1 ⟨rfl, hb, hr⟩
  have HR := Lib.hid hr; clear hr
  clear hg
  go_wp2
  refine leaves_cons (f := 83) (args := #[.pointer (some ⟨w.heap.size, 0, none⟩)]) (by simp) (by simp [go_sem]) ?_
  refine (rcatch_up w.heap.size 0 [] _ hb).mono ?_
  rintro e u' w'' ⟨rfl, rfl, rfl⟩
  have hb2 := (hb.alloc (.cells #[] 130)).setCell 0 (.int .i64 4)
  have c2 : ((w1.alloc (.cells #[] 130)).setCell ⟨w.heap.size, 0, none⟩ (.int .i64 4)).cell? ⟨w.heap.size, 0, none⟩ = some (.int .i64 4) := hb2.cell 0
  simp only [settle]
  refine ⟨.int .i64 4, ?_, rfl, w1, HR.out, rfl⟩
  simp [results, Tryz.results50, go_sem, c2]

set_option maxRecDepth 100000 in
set_option maxHeartbeats 1600000 in
/-- Too few words. -/
theorem read_short (line : ByteArray) (g : Nat) (cb : Array Value) (w : World) (hV : Vs w) (hs : line.size ≤ 1000) (hN : ¬ 3 ≤ Lib.countB line ⟨#[32]⟩) :
    Calls Tryz.prog 50 #[.string line, .func (.func g) #[] cb] w fun e w' => e = .returned (.int .i64 4) ∧ w' = ((readW w line).alloc (.cells #[] 130)).setCell ⟨w.heap.size, 0, none⟩ (.int .i64 4) := by
  have hmf : ∀ (fn : Fn) (first cap : Array Value) (w : World), (Instr.makeFunc fn first cap).run Tryz.prog w = .ok (.func fn first cap) w := fun _ _ _ _ => rfl
  have hV1 : Vs (w.alloc (.cells #[.int .i64 0] 27)) := hV.below ((Below.refl _ w).alloc (Nat.le_refl _) _)
  obtain ⟨m, hm⟩ := hV1.max
  have hSp := Tryz.strings_Split line ⟨#[32]⟩ m _ (by omega) hm (by decide)
  unfold readW
  obtain ⟨N, hNN⟩ : ∃ N, N = Lib.countB line ⟨#[32]⟩ := ⟨_, rfl⟩
  rw [← hNN] at hSp hN ⊢
  have hNz : ¬ (4 : Int) ≤ (N : Int) + 1 := by omega
  have hNd : decide ((4 : Int) ≤ (N : Int) + 1) = false := decide_eq_false hNz
  have hb : Blk (((w.alloc (.cells #[.int .i64 0] 27)).alloc (.cells ((Lib.splitB ⟨#[32]⟩ 0 N line).map Value.string).toArray 9)).alloc (.cells #[.slice (some ⟨w.heap.size + 1, 0, none⟩) (N + 1) (N + 1)] 91)) w.heap.size #[.int .i64 0] 27 := ((Blk.new w _ _).alloc _).alloc _
  clear hV hV1 hm hNN
  go_enter_defers Tryz.func50, Tryz.ntmps50
  go_wp2_with (fail)
  refine hSp.mono ?_
  clear hSp
  rintro e w1 ⟨rfl, rfl⟩
  go_wp2_with (go_at_call 52; refine (unless_up _).mono ?_; rintro e w4 ⟨rfl, rfl⟩)
  obtain ⟨w1, hw1⟩ : ∃ w1, w1 = (((w.alloc (.cells #[.int .i64 0] 27)).alloc (.cells ((Lib.splitB ⟨#[32]⟩ 0 N line).map Value.string).toArray 9)).alloc (.cells #[.slice (some ⟨w.heap.size + 1, 0, none⟩) (N + 1) (N + 1)] 91)) := ⟨_, rfl⟩
  rw [← hw1] at hb ⊢
  clear hw1
  go_wp2
  refine leaves_cons (f := 83) (args := #[.pointer (some ⟨w.heap.size, 0, none⟩)]) (by simp) (by simp [go_sem]) ?_
  refine (rcatch_up w.heap.size 0 [] _ hb).mono ?_
  rintro e u' w'' ⟨rfl, rfl, rfl⟩
  have hb2 := (hb.alloc (.cells #[] 130)).setCell 0 (.int .i64 4)
  have c2 : ((w1.alloc (.cells #[] 130)).setCell ⟨w.heap.size, 0, none⟩ (.int .i64 4)).cell? ⟨w.heap.size, 0, none⟩ = some (.int .i64 4) := hb2.cell 0
  simp only [settle]
  refine ⟨.int .i64 4, ?_, rfl, rfl⟩
  simp [results, Tryz.results50, go_sem, c2]

end Go.Proofs.YtkeppoiomjhkpaaGreatDoor

/-
  Walks: award.ReadSale.
-/
namespace Go.Proofs.YtkeppoiomjhkpaaGreatDoor
open Go.RowKit Lg Go.Sort Go.Shelf

theorem Vs.vars {w : World} (h : Vs w) : ∀ g, g = 0 ∨ g = 1 ∨ g = 2 ∨ g = 3 → g < w.heap.size := by
  have lt : ∀ {g : Nat} {v : Value}, w.cell? ⟨g, 0, none⟩ = some v → g < w.heap.size := fun hc => World.block_lt_of_cell? _ _ hc
  intro g hg
  rcases hg with rfl | rfl | rfl | rfl
  · obtain ⟨ev, h1, _⟩ := h.syn; exact lt h1
  · obtain ⟨ev, h1, _⟩ := h.rng; exact lt h1
  · exact lt (h.tab.cell tab_named 0 (by decide))
  · obtain ⟨m, h1⟩ := h.max; exact lt h1

/-- The world in which ReadSale calls read. -/
def rsW (w : World) (line : ByteArray) : World := ((w.alloc (.cells #[.string line] 9)).alloc (.cells #[.int .i64 0, .int .i64 0, .int .i64 0, .int .i64 0, .int .i64 0, .int .i64 0, .int .i64 0, .int .i64 0, .int .i64 0] 24)).alloc (.cells #[.int .i64 0, .int .i64 0, .int .i64 0, .int .i64 0, .int .i64 0, .int .i64 0, .int .i64 0, .int .i64 0, .int .i64 0] 24)

theorem rsW_size (w : World) (line : ByteArray) : (rsW w line).heap.size = w.heap.size + 1 + 1 + 1 := by simp [rsW]

theorem readW_below (w : World) (line : ByteArray) : RowKit.Below w.heap.size w (readW w line) := by
  unfold readW
  refine Below.alloc (Below.alloc (Below.alloc (Below.refl _ _) ?_ _) ?_ _) ?_ _
  all_goals (simp; try omega)

theorem rsW_below (w : World) (line : ByteArray) : RowKit.Below w.heap.size w (rsW w line) := by
  unfold rsW
  refine Below.alloc (Below.alloc (Below.alloc (Below.refl _ _) ?_ _) ?_ _) ?_ _
  all_goals (simp; try omega)

theorem split_words (line : ByteArray) (i : Nat) (s : Bs) (h : (cutL line.data.toList)[i]? = some s) : (Lib.splitB ⟨#[32]⟩ 0 (Lib.countB line ⟨#[32]⟩) line)[i]? = some (ofL s) := by
  have h2 := Lib.splitB_data ⟨#[32]⟩ 0 (Lib.countB line ⟨#[32]⟩) line
  have h3 : (Lib.splitB ⟨#[32]⟩ 0 (Lib.countB line ⟨#[32]⟩) line).map (·.data.toList) = cutL line.data.toList := by
    rw [h2, ← splitK_cut]
  rw [← h3, List.getElem?_map] at h
  cases hb : (Lib.splitB ⟨#[32]⟩ 0 (Lib.countB line ⟨#[32]⟩) line)[i]? with
  | none => rw [hb] at h; cases h
  | some b =>
    rw [hb] at h
    simp only [Option.map_some, Option.some.injEq] at h
    rw [← h]

theorem rdy_of (w : World) (line : ByteArray) (hV : Vs w) (hs : line.size ≤ 1000) :
    Rdy (readW (rsW w line) line) (w.heap.size + 1 + 1) w.heap.size ((rsW w line).heap.size + 1) ((rsW w line).heap.size + 1 + 1) (Lib.countB line ⟨#[32]⟩ + 1) line (cutL line.data.toList) := by
  have hB := rsW_below w line
  have hB2 := readW_below (rsW w line) line
  have hB3 := hB.trans (hB2.mono hB.size)
  have kL : Blk (rsW w line) w.heap.size #[.string line] 9 := ((Blk.new w _ _).alloc _).alloc _
  have kW : Blk (readW (rsW w line) line) ((rsW w line).heap.size + 1 + 1) #[.slice (some ⟨(rsW w line).heap.size + 1, 0, none⟩) (Lib.countB line ⟨#[32]⟩ + 1) (Lib.countB line ⟨#[32]⟩ + 1)] 91 := Blk.new2 _ _ _ _ _
  have kS : Blk (readW (rsW w line) line) ((rsW w line).heap.size + 1) ((Lib.splitB ⟨#[32]⟩ 0 (Lib.countB line ⟨#[32]⟩) line).map Value.string).toArray 9 := (Blk.new1 _ _ _ _).alloc _
  have hsz := rsW_size w line
  refine ⟨hV.below hB3, fun g hg => ?_, (kL.below' hB2).cell 0, kW.cell 0, fun i s hi => ?_, ?_, fun s hs2 => ?_, by omega, by omega, by omega⟩
  · have := hV.vars g hg; omega
  · rw [kS.cell i, List.getElem?_toArray, List.getElem?_map, split_words line i s hi]; rfl
  · rw [cutL_len]
  · have := cutL_size line.data.toList s hs2
    have hl : line.data.toList.length = line.size := by rw [Array.length_toList]; rfl
    omega

theorem rs1_enters : ∀ args w, (callFunc 51 args).run Tryz.prog w = .ok (.enter 51 args) w := fun _ _ => by kernel_rfl

/-- What read does for ReadSale. -/
theorem readCall (line : ByteArray) (y : Sale) (er : Int) (h : ReadsS line y er) (hs : line.size ≤ 1000) (w : World) (hV : Vs w) :
    Calls Tryz.prog 50 #[.string line, .func (.func 51) #[] #[.pointer (some ⟨w.heap.size + 1 + 1, 0, none⟩), .pointer (some ⟨w.heap.size, 0, none⟩)]] (rsW w line) fun e w' =>
      e = .returned (.int .i64 er) ∧ RowKit.Below w.heap.size w w' ∧ Blk w' (w.heap.size + 1) #[.int .i64 0, .int .i64 0, .int .i64 0, .int .i64 0, .int .i64 0, .int .i64 0, .int .i64 0, .int .i64 0, .int .i64 0] 24 ∧ (er = 0 → Blk w' (w.heap.size + 1 + 1) (cS y).toArray 24) := by
  have hR := rdy_of w line hV hs
  have hB := rsW_below w line
  have hB2 := readW_below (rsW w line) line
  have hB3 := hB.trans (hB2.mono hB.size)
  have hsz := rsW_size w line
  have hV3 := hV.below hB
  have kR : Blk (rsW w line) (w.heap.size + 1) #[.int .i64 0, .int .i64 0, .int .i64 0, .int .i64 0, .int .i64 0, .int .i64 0, .int .i64 0, .int .i64 0, .int .i64 0] 24 := (Blk.new1 w _ _ _).alloc _
  have kX : Blk (readW (rsW w line) line) (w.heap.size + 1 + 1) #[.int .i64 0, .int .i64 0, .int .i64 0, .int .i64 0, .int .i64 0, .int .i64 0, .int .i64 0, .int .i64 0, .int .i64 0] 24 := (Blk.new2 w _ _ _ _).below' hB2
  have kE : Blk (readW (rsW w line) line) (rsW w line).heap.size #[.int .i64 0] 27 := ((Blk.new _ _ _).alloc _).alloc _
  have kR2 := kR.below' hB2
  have ha : readArgs (rsW w line) line ++ #[.pointer (some ⟨w.heap.size + 1 + 1, 0, none⟩), .pointer (some ⟨w.heap.size, 0, none⟩)] = #[.slice (some ⟨(rsW w line).heap.size + 1, 0, none⟩) (Lib.countB line ⟨#[32]⟩ + 1) (Lib.countB line ⟨#[32]⟩ + 1), .func (.func 85) #[] #[.pointer (some ⟨(rsW w line).heap.size + 1 + 1, 0, none⟩)], .pointer (some ⟨w.heap.size + 1 + 1, 0, none⟩), .pointer (some ⟨w.heap.size, 0, none⟩)] := rfl
  rcases h with ⟨rfl, h1, h2⟩ | ⟨rfl, rfl, h2⟩
  · have hw : cutL line.data.toList = wordsS y := by rw [← h2, cutS h1]
    have hlen : (wordsS y).length = Lib.countB line ⟨#[32]⟩ + 1 := by rw [← hw]; exact hR.len
    have h4 : 4 ≤ (wordsS y).length := by unfold wordsS; split <;> simp
    rw [hw] at hR
    have hR' : Rdy (readW (rsW w line) line) (w.heap.size + 1 + 1) w.heap.size ((rsW w line).heap.size + 1) ((rsW w line).heap.size + 1 + 1) (Lib.countB line ⟨#[32]⟩ + 1) (lineS y) (wordsS y) := by rw [h2]; exact hR
    have hc := readSale1_ok y h1 _ _ _ _ _ _ hR' kX
    rw [← ha] at hc
    refine (read_ok line 51 _ rs1_enters (rsW w line) hV3 (fun w' => Blk w' (w.heap.size + 1 + 1) (cS y).toArray 24 ∧ (readW (rsW w line) line).grownBy w' (some (w.heap.size + 1 + 1))) hs (by omega) (hc.mono fun e w' q => ⟨q.1, kE.kept q.2.2 (by simp; omega), q.2.1, q.2.2⟩)).mono ?_
    rintro e w' ⟨rfl, w1, ⟨k1, g1⟩, rfl⟩
    refine ⟨rfl, (Below.grown hB3 g1 hB3.size (fun k e => by injection e with e; omega)).setCell (p := ⟨_, 0, none⟩) (by show w.heap.size ≤ (rsW w line).heap.size; omega) _, ?_, fun _ => ?_⟩
    · exact (kR2.kept g1 (by simp)).setCell_other (by omega) _ _
    · exact k1.setCell_other (by omega) _ _
  · by_cases hN : 3 ≤ Lib.countB line ⟨#[32]⟩
    · have hc := readSale1_up line h2 _ _ _ _ _ _ _ hR (by omega) kX
      rw [← ha] at hc
      refine (read_up line 51 _ rs1_enters (rsW w line) hV3 (fun w' => (readW (rsW w line) line).grownBy w' (some (w.heap.size + 1 + 1))) hs hN (hc.mono fun e w' q => ⟨q.1, kE.kept q.2 (by simp; omega), q.2⟩)).mono ?_
      rintro e w' ⟨rfl, w1, g1, rfl⟩
      have hb := Below.grown hB3 g1 hB3.size (fun k e => by injection e with e; omega)
      refine ⟨rfl, (hb.alloc hb.size _).setCell (p := ⟨_, 0, none⟩) (by show w.heap.size ≤ (rsW w line).heap.size; omega) _, ?_, fun e => absurd e (by decide)⟩
      exact ((kR2.kept g1 (by simp)).alloc _).setCell_other (by omega) _ _
    · refine (read_short line 51 _ (rsW w line) hV3 hs hN).mono ?_
      rintro e w' ⟨rfl, rfl⟩
      refine ⟨rfl, (hB3.alloc hB3.size _).setCell (p := ⟨_, 0, none⟩) (by show w.heap.size ≤ (rsW w line).heap.size; omega) _, ?_, fun e => absurd e (by decide)⟩
      exact (kR2.alloc _).setCell_other (by omega) _ _

set_option maxRecDepth 100000 in
set_option maxHeartbeats 1600000 in
theorem readSale_any (line : ByteArray) (y : Sale) (er : Int) (h : ReadsS line y er) (hs : line.size ≤ 1000) (w : World) (hV : Vs w) : Calls Tryz.prog 13 #[.string line] w (Gives w (.tuple #[aS y, .int .i64 er])) := by
  have hmf : ∀ (fn : Fn) (first cap : Array Value) (w : World), (Instr.makeFunc fn first cap).run Tryz.prog w = .ok (.func fn first cap) w := fun _ _ _ _ => rfl
  have hc := readCall line y er h hs w hV
  have her : (er = 0) ∨ (er = 4 ∧ y = zeroSale) := by
    rcases h with ⟨rfl, _, _⟩ | ⟨rfl, rfl, _⟩
    · exact .inl rfl
    · exact .inr ⟨rfl, rfl⟩
  unfold rsW at hc
  clear h hV
  go_enter Tryz.func13, Tryz.ntmps13
  go_wp2_with (fail)
  refine hc.mono ?_
  clear hc
  rintro e w1 ⟨rfl, hB, kR, hX⟩
  have eR := kR.cell
  have gR := kR.frozen
  have lR := kR.lt
  rcases her with rfl | ⟨rfl, rfl⟩
  · have kX := hX rfl
    clear hX
    go_wp2_with (first
      | (refine wpList_load_mid rfl 24 _ rfl (w.heap.size + 1 + 1) 0 rfl (cS y) _ (kX.range 0 _ (fun j v h => by simpa using h)) Tryz.underlying24 rfl (by kernel_rfl) ?_)
      | fail)
    have hbl : Blk (w1.setCells (w.heap.size + 1) 0 (cS y)) (w.heap.size + 1) (cS y).toArray 24 := by
      rw [← setAll_zeroS y]
      exact kR.setCells 0 (cS y)
    rw [putS]
    (try simp only [Exit.inBlock, Exit.then]); refine bodyPost_ret (results_cell_tmp rfl _ _ (w.heap.size + 1) 24 (cS y) _ rfl hbl Tryz.underlying24 rfl (by kernel_rfl)) rfl ?_
    exact ⟨rfl, below_setCells hB (by omega) _ _⟩
  · clear hX
    go_wp2_with (fail)
    have hbl : Blk (w1.setCells (w.heap.size + 1) 0 (cS zeroSale)) (w.heap.size + 1) (cS zeroSale).toArray 24 := by
      rw [← setAll_zeroS zeroSale]
      exact kR.setCells 0 (cS zeroSale)
    rw [putS0]
    (try simp only [Exit.inBlock, Exit.then]); refine bodyPost_ret (results_cell_tmp rfl _ _ (w.heap.size + 1) 24 (cS zeroSale) _ rfl hbl Tryz.underlying24 rfl (by kernel_rfl)) rfl ?_
    exact ⟨rfl, below_setCells hB (by omega) _ _⟩

end Go.Proofs.YtkeppoiomjhkpaaGreatDoor

/-
  Walks: what the reference takes for a number.
-/
namespace Go.Proofs.YtkeppoiomjhkpaaGreatDoor
open Go.RowKit Lg Go.Sort

theorem decNat_of {l : List UInt8} (h : 1 ≤ l.length) : Go.Lib.decNat l = Go.Lib.decFrom 0 l := by
  unfold Go.Lib.decNat
  cases l with
  | nil => simp at h
  | cons a t => simp

theorem decFrom_none {l : List UInt8} {k : Nat} {c : UInt8} (hc : l[k]? = some c) (hd : Go.Lib.digitVal c = none) (acc : Nat) : Go.Lib.decFrom acc l = none := by
  cases h : Go.Lib.decFrom acc l with
  | none => rfl
  | some n =>
    obtain ⟨d, hd2⟩ := Go.Lib.digit_of_decFrom l acc n h k c hc
    rw [hd] at hd2; cases hd2

set_option maxRecDepth 100000 in
set_option maxHeartbeats 1600000 in
theorem valueR_any (s : ByteArray) (w : World) : Calls Tryz.prog 54 #[.string s] w fun e w' => e = .returned (.int .i64 (valL s.data.toList)) ∧ w = w' := by
  obtain ⟨q, hq⟩ : ∃ q, q = valL s.data.toList := ⟨_, rfl⟩
  rw [← hq]
  unfold valL at hq
  have hls : s.data.toList.length = s.size := by rw [Array.length_toList]; rfl
  rw [hls] at hq
  by_cases h1 : s.size < 1
  · have h1z : (s.size : Int) < 1 := by omega
    rw [if_pos (.inl h1)] at hq
    subst hq
    clear hls
    go_enter Tryz.func54, Tryz.ntmps54
    go_wp2
    go_ret
    exact ⟨rfl, rfl⟩
  by_cases h2 : 12 < s.size
  · have h1z : ¬ (s.size : Int) < 1 := by omega
    have h2z : (12 : Int) < (s.size : Int) := by omega
    rw [if_pos (.inr h2)] at hq
    subst hq
    clear hls
    go_enter Tryz.func54, Tryz.ntmps54
    go_wp2
    go_ret
    exact ⟨rfl, rfl⟩
  have h1z : ¬ (s.size : Int) < 1 := by omega
  have h2z : ¬ (12 : Int) < (s.size : Int) := by omega
  rw [if_neg (by omega), decNat_of (by omega)] at hq
  have Hq := Lib.hid hq
  have Hls := Lib.hid hls
  clear hq hls
  go_enter Tryz.func54, Tryz.ntmps54
  go_wp2
  go_loop [3, 4] (fun n i => ∃ (k m : Nat), k ≤ s.size ∧ i = .int .i64 k ∧ n = .int .i64 m ∧ m < 10 ^ k ∧ Hid (Go.Lib.decFrom 0 (s.data.toList.take k) = some m)) (fun _ i => s.size - (intOf i).toNat)
  case atStart => exact ⟨0, 0, Nat.zero_le _, rfl, rfl, by decide, Lib.hid (by simp [Go.Lib.decFrom])⟩
  case round =>
    obtain ⟨k, m, hk, rfl, rfl, hm, Ht⟩ := hrel
    have hm12 : m < 1000000000000 := Nat.lt_of_lt_of_le hm (Nat.le_trans (Nat.pow_le_pow_right (by decide) (show k ≤ 12 by omega)) (by decide))
    by_cases hlt : k < s.size
    · have hltz : (k : Int) < (s.size : Int) := by omega
      have hk256 : (s[k]'hlt).toNat < 256 := UInt8.toNat_lt _
      have hget : s.data.toList[k]? = some (s[k]'hlt) := by rw [List.getElem?_eq_getElem (by rw [Array.length_toList]; exact hlt)]; rfl
      have Hget := Lib.hid hget
      have Hm := Lib.hid hm
      clear hget hm
      obtain ⟨c, hc⟩ : ∃ c : Nat, c = (s[k]'hlt).toNat := ⟨_, rfl⟩
      rw [← hc] at hk256
      have hcc : c < 48 ∨ (48 ≤ c ∧ c ≤ 57) ∨ 57 < c := by omega
      rcases hcc with hcc | ⟨hcc, hcc2⟩ | hcc
      · have f1 : ((s[k]'hlt).toNat : Int) < 48 := by omega
        have hd : Go.Lib.digitVal (s[k]'hlt) = none := by unfold Go.Lib.digitVal; rw [← hc, if_neg (by omega)]
        have Hd := Lib.hid hd
        clear hc hcc hd
        go_wp2
        go_ret
        exact ⟨ret_int (by rw [Hq.out, decFrom_none Hget.out Hd.out]), rfl⟩
      · have f1 : ¬ ((s[k]'hlt).toNat : Int) < 48 := by omega
        have f2 : ¬ (57 : Int) < ((s[k]'hlt).toNat : Int) := by omega
        have hd : Go.Lib.digitVal (s[k]'hlt) = some (c - 48) := by unfold Go.Lib.digitVal; rw [← hc, if_pos (by omega)]
        have Hd := Lib.hid hd
        have Hc := Lib.hid hc
        have h57 : ((s[k]'hlt).toNat : Int) ≤ 57 := by omega
        have h48 : (48 : Int) ≤ ((s[k]'hlt).toNat : Int) := by omega
        clear hc hd
        go_wp2
        go_round
        case rel =>
          refine ⟨k + 1, m * 10 + (c - 48), by omega, by go_num, ?_, ?_, Lib.hid (Go.Lib.decFrom_take _ k 0 m _ _ Ht.out Hget.out Hd.out)⟩
          · congr 1
            rw [← Hc.out]; omega
          · rw [Nat.pow_succ]; have := Hm.out; omega
        case measure => simp [intOf]; omega
      · have f1 : ¬ ((s[k]'hlt).toNat : Int) < 48 := by omega
        have f2 : (57 : Int) < ((s[k]'hlt).toNat : Int) := by omega
        have hd : Go.Lib.digitVal (s[k]'hlt) = none := by unfold Go.Lib.digitVal; rw [← hc, if_neg (by omega)]
        have Hd := Lib.hid hd
        clear hc hcc hd
        go_wp2
        go_ret
        exact ⟨ret_int (by rw [Hq.out, decFrom_none Hget.out Hd.out]), rfl⟩
    · obtain rfl : k = s.size := by omega
      have ht := Ht.out
      rw [List.take_of_length_le (by rw [Hls.out]; exact Nat.le_refl _)] at ht
      have Ht2 := Lib.hid ht
      clear ht Ht
      go_wp2
      go_ret
      exact ⟨ret_int (by rw [Hq.out, Ht2.out]), rfl⟩

end Go.Proofs.YtkeppoiomjhkpaaGreatDoor
