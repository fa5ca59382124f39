import Derived.Test.YtmeomhojbobpbaaGreatDoorPart09
/-
  Walk: symMerge, whole.
-/
namespace Go.Proofs.YtmeomhojbobpbaaGreatDoor
open Go.RowKit Lg Go.Sort

/-- What the walk of a merge shows: the induction's own word. -/
def SymAt (g : Nat) (cb : Array Value) (n0 B cap n : Nat) (cf : Nat → Nat → Int) (w0 : World) (f : Nat) : Prop :=
  ∀ (a m b : Nat) (d : Array Nat) (w : World), b - a ≤ f → d.size = n → PlsD w B d → RowKit.Below n0 w0 w → a < m → m < b → b ≤ n →
    Calls Tryz.prog 199 #[.slice (some ⟨B, 0, none⟩) n cap, .int .i64 a, .int .i64 m, .int .i64 b, .func (.func g) #[] cb] w fun e w' => e = .returned (.tuple #[]) ∧ PlsD w' B (symM (ltC cf) f a m b d) ∧ RowKit.Below n0 w0 w'

set_option maxRecDepth 100000 in
set_option maxHeartbeats 6400000 in
theorem sym3_any (g : Nat) (cb : Array Value) (n0 B cap a m b f : Nat) (cf : Nat → Nat → Int) (d : Array Nat) (w0 w : World) (eg : ∀ args w, (callFunc g args).run Tryz.prog w = .ok (.enter g args) w) (hcmp : CmpIs g cb n0 d.size cf w0)
    (hP : PlsD w B d) (hB : RowKit.Below n0 w0 w) (hB0 : n0 ≤ B) (h0 : n0 ≤ w0.heap.size) (ham : a < m) (hmb : m < b) (h1 : ¬ m - a = 1) (h2 : ¬ b - m = 1) (hb : b ≤ d.size) (hn : d.size ≤ 1000000) (hf : b - a ≤ f + 1)
    (ih : SymAt g cb n0 B cap d.size cf w0 f) :
    Calls Tryz.prog 199 #[.slice (some ⟨B, 0, none⟩) d.size cap, .int .i64 a, .int .i64 m, .int .i64 b, .func (.func g) #[] cb] w fun e w' => e = .returned (.tuple #[]) ∧ PlsD w' B (symM (ltC cf) (f + 1) a m b d) ∧ RowKit.Below n0 w0 w' := by
  have HC := Lib.hid hcmp
  clear hcmp
  obtain ⟨mid, hmid⟩ : ∃ mid, mid = (a + b) / 2 := ⟨_, rfl⟩
  obtain ⟨n, hnn⟩ : ∃ n, n = d.size := ⟨_, rfl⟩
  obtain ⟨pr, hpr⟩ : ∃ pr : Nat → Bool, pr = fun c => !ltC cf d[mid + m - 1 - c]! d[c]! := ⟨_, rfl⟩
  obtain ⟨s0, hs0⟩ : ∃ s0, s0 = if mid < m then mid + m - b else a := ⟨_, rfl⟩
  obtain ⟨r0, hr0⟩ : ∃ r0, r0 = if mid < m then mid else m := ⟨_, rfl⟩
  have hsy : symStart (ltC cf) a m b d = bsc pr s0 r0 := by unfold symStart; rw [← hmid, ← hpr, ← hs0, ← hr0]
  obtain ⟨fin, hfin⟩ : ∃ fin, fin = symM (ltC cf) (f + 1) a m b d := ⟨_, rfl⟩
  rw [← hfin]
  rw [symM, if_neg h1, if_neg h2, hsy, ← hmid] at hfin
  dsimp only at hfin
  have Hfin := Lib.hid hfin; clear hfin hsy
  rw [← hnn] at hb hn ih ⊢
  have IH := Lib.hid ih; clear ih
  have HN := Lib.hid hnn; clear hnn
  have Hpr := Lib.hid hpr; clear hpr
  have hwm : IntKind.i64.wrap ((m : Int) - (a : Int)) = (m : Int) - (a : Int) := by rw [IntKind.wrap_i64]; omega
  have hwb : IntKind.i64.wrap ((b : Int) - (m : Int)) = (b : Int) - (m : Int) := by rw [IntKind.wrap_i64]; omega
  have ht1 : ((m : Int) - (a : Int) == 1) = false := by simp; omega
  have ht2 : ((b : Int) - (m : Int) == 1) = false := by simp; omega
  have hz : ((a : Int) + (b : Int)) / 2 = (mid : Int) := by omega
  have hmn : m < n := by omega
  have hm1 : a ≤ mid := by omega
  have hm2 : mid < b := by omega
  have hm3 : a + b ≤ 2 * mid + 1 := by omega
  have hm4 : 2 * mid ≤ a + b := by omega
  have hmd : a < mid := by omega
  have hbs : s0 ≤ r0 ∧ a ≤ s0 ∧ r0 ≤ mid ∧ r0 ≤ m ∧ mid + m ≤ b + s0 := by
    rw [hs0, hr0]; split <;> omega
  obtain ⟨hb1, hb2, hb3, hb4, hb5⟩ := hbs
  have hwn : IntKind.i64.wrap ((mid : Int) + (m : Int)) = (mid : Int) + (m : Int) := by rw [IntKind.wrap_i64]; omega
  have hwp : IntKind.i64.wrap ((mid : Int) + (m : Int) - 1) = (mid : Int) + (m : Int) - 1 := by rw [IntKind.wrap_i64]; omega
  have hwnb : IntKind.i64.wrap ((mid : Int) + (m : Int) - (b : Int)) = (mid : Int) + (m : Int) - (b : Int) := by rw [IntKind.wrap_i64]; omega
  have H1 := Lib.hid h1; clear h1
  have H2 := Lib.hid h2; clear h2
  have Hmid := Lib.hid hmid; clear hmid
  have hc1 : (mid < m ∧ (s0 : Int) = (mid : Int) + (m : Int) - (b : Int) ∧ r0 = mid) ∨ (¬ mid < m ∧ s0 = a ∧ r0 = m) := by
    rw [hs0, hr0]; split <;> omega
  have Hs0 := Lib.hid hs0; clear hs0
  have Hr0 := Lib.hid hr0; clear hr0
  go_enter Tryz.func199, Tryz.ntmps199
  rcases hc1 with ⟨hlm, e1, e2⟩ | ⟨hlm, e1, e2⟩
  · have hlz : (mid : Int) < (m : Int) := by omega
    have hlzd : decide ((mid : Int) < (m : Int)) = true := decide_eq_true hlz
    have E1 : Hid (Value.int IntKind.i64 ((mid : Int) + (m : Int) - (b : Int)) = Value.int .i64 (s0 : Int)) := by show _ = _; rw [e1]
    have E2 : Hid (Value.int IntKind.i64 (mid : Int) = Value.int .i64 (r0 : Int)) := by show _ = _; rw [e2]
    clear e1 e2 hlm
    go_wp2
    clear hlz hlzd hwm hwb ht1 ht2 hwnb hz hwn hwp
    go_loopw [20, 21] (fun i j wr => ∃ p q : Nat, s0 ≤ p ∧ p ≤ q ∧ q ≤ r0 ∧ i = .int .i64 p ∧ j = .int .i64 q ∧ PlsD wr B d ∧ RowKit.Below n0 w0 wr ∧ Hid (bsc pr p q = bsc pr s0 r0)) (fun i j _ => (intOf j).toNat - (intOf i).toNat)
    case atStart => exact ⟨s0, r0, Nat.le_refl _, hb1, Nat.le_refl _, E1.out, E2.out, hP, hB, rfl⟩
    case round =>
      obtain ⟨p, q, hp1, hp2, hp3, rfl, rfl, hPr, hBr, HR⟩ := hrel
      by_cases hlt : p < q
      · have hltz : (p : Int) < (q : Int) := by omega
        obtain ⟨h, hh⟩ : ∃ h, h = (p + q) / 2 := ⟨_, rfl⟩
        have hR := HR.out
        rw [bsc_go pr p q hlt, ← hh] at hR
        have hz : ((p : Int) + (q : Int)) / 2 = (h : Int) := by omega
        have hb6 : p ≤ h := by omega
        have hb7 : h < q := by omega
        obtain ⟨pc, hpc⟩ : ∃ pc, pc = mid + m - 1 - h := ⟨_, rfl⟩
        have epc : (mid : Int) + (m : Int) - 1 - (h : Int) = (pc : Int) := by omega
        have pc1 : (pc : Int) < (n : Int) := by omega
        have pcn : pc < n := by omega
        have hhn : h < n := by omega
        have hhz : (h : Int) < (n : Int) := by omega
        have hwpc : IntKind.i64.wrap (pc : Int) = (pc : Int) := by rw [IntKind.wrap_i64]; omega
        have hwh : IntKind.i64.wrap ((h : Int) + 1) = (h : Int) + 1 := by rw [IntKind.wrap_i64]; omega
        have Hh := Lib.hid hh; clear hh
        have HR2 := Lib.hid hR; clear hR
        have hg1 := hPr.get pc (by rw [← HN.out]; exact pcn)
        have hg2 := hPr.get h (by rw [← HN.out]; exact hhn)
        obtain ⟨x, hx⟩ : ∃ x, x = d[pc]! := ⟨_, rfl⟩
        obtain ⟨y, hy⟩ : ∃ y, y = d[h]! := ⟨_, rfl⟩
        rw [← hx] at hg1
        rw [← hy] at hg2
        obtain ⟨hxn, cj⟩ := hg1
        obtain ⟨hyn, cp⟩ := hg2
        have hpv : pr h = !decide (cf x y < 0) := by rw [Hpr.out, hx, hy, hpc]; rfl
        have Hpv := Lib.hid hpv; clear hpv
        have Hpc := Lib.hid hpc; clear hpc
        clear hx hy
        have hc := HC.out x y hxn hyn
        clear hxn hyn
        obtain ⟨v, hv⟩ : ∃ v, v = cf x y := ⟨_, rfl⟩
        rw [← hv] at hc Hpv
        clear hv
        have hB1 := hBr.drew
        have hPd := hPr.drew
        go_wp2_with (fail)
        go_still_tail 11, (by kernel_rfl)
        change wpList _ _ _ _ _ wr.drew
        clear cj cp
        generalize wr.drew = wd at *
        go_wp2_with (fail)
        refine (hc _ hB1).mono ?_
        clear hc
        rintro e w3 ⟨rfl, hB3⟩
        have hP3 := hPd.below hB3
        have hb3x : RowKit.Below n0 w0 w3 := hB1.trans (hB3.mono (by have := hB1.size; omega))
        clear hPd hPr hB1
        by_cases hv : v < 0
        · have e := HR2.out
          rw [Hpv.out, decide_eq_true hv, if_neg (by simp)] at e
          have HR3 := Lib.hid e; clear e
          have hvd : decide (v < 0) = true := decide_eq_true hv
          go_wp2
          go_roundw
          case rel => exact ⟨p, h, by omega, by omega, by omega, rfl, by first | rfl | go_num, hP3, hb3x, HR3⟩
          case measure => simp [intOf]; omega
        · have e := HR2.out
          rw [Hpv.out, decide_eq_false hv, if_pos (by simp : (!false) = true)] at e
          have HR3 := Lib.hid e; clear e
          have hvd : decide (v < 0) = false := decide_eq_false hv
          go_wp2
          go_roundw
          case rel => exact ⟨h + 1, q, by omega, by omega, hp3, by go_num, rfl, hP3, hb3x, HR3⟩
          case measure => simp [intOf]; omega
      · obtain rfl : p = q := by omega
        have hs := HR.out
        rw [bsc_end] at hs
        have hfin := Hfin.out
        rw [← hs] at hfin
        clear hs HR hlt Hfin
        obtain ⟨en, hen⟩ : ∃ en, en = mid + m - p := ⟨_, rfl⟩
        rw [← hen] at hfin
        have ez : (mid : Int) + (m : Int) - (p : Int) = (en : Int) := by omega
        have hwe : IntKind.i64.wrap (en : Int) = (en : Int) := by rw [IntKind.wrap_i64]; omega
        have hen1 : en ≤ b := by omega
        have hen2 : m ≤ en := by omega
        have hen3 : p ≤ m := by omega
        have hen4 : p ≤ mid := by omega
        have hen5 : en = mid + m - p := hen
        have Hen := Lib.hid hen; clear hen hen5
        obtain ⟨d1, hd1⟩ : ∃ d1, d1 = if p < m ∧ m < en then rotate d p m en else d := ⟨_, rfl⟩
        obtain ⟨d2, hd2⟩ : ∃ d2, d2 = if a < p ∧ p < mid then symM (ltC cf) f a p mid d1 else d1 := ⟨_, rfl⟩
        obtain ⟨d3, hd3⟩ : ∃ d3, d3 = if mid < en ∧ en < b then symM (ltC cf) f mid en b d2 else d2 := ⟨_, rfl⟩
        rw [← hd1, ← hd2, ← hd3] at hfin
        have hz1 : d1.size = n := by
          rw [hd1]; split
          · rw [rotate_size]; exact HN.out.symm
          · exact HN.out.symm
        have hz2 : d2.size = n := by
          rw [hd2]; split
          · rw [symM_size]; exact hz1
          · exact hz1
        have Hz1 := Lib.hid hz1; clear hz1
        have Hz2 := Lib.hid hz2; clear hz2
        have Hfin := Lib.hid hfin; clear hfin
        have Hd1 := Lib.hid hd1; clear hd1
        have Hd2 := Lib.hid hd2; clear hd2
        have Hd3 := Lib.hid hd3; clear hd3
        by_cases c1 : p < m ∧ m < en
        · have q1 : (p : Int) < (m : Int) := by omega
          have q2 : (m : Int) < (en : Int) := by omega
          have q1d : decide ((p : Int) < (m : Int)) = true := decide_eq_true q1
          have q2d : decide ((m : Int) < (en : Int)) = true := decide_eq_true q2
          have hc := rotate_any n0 B cap p m en d (.func (.func g) #[] cb) w0 wr hPr hBr hB0 c1.1 c1.2 (by rw [← HN.out]; omega) (by rw [← HN.out]; exact hn)
          have e := Hd1.out
          rw [if_pos c1] at e
          rw [← e, ← HN.out] at hc
          clear e
          go_wp2_with (fail)
          refine hc.mono ?_
          clear hc
          rintro e w4 ⟨rfl, hP4, hB4⟩
          clear q1 q2 q1d q2d
          by_cases c2 : a < p ∧ p < mid
          · have r1 : (a : Int) < (p : Int) := by omega
            have r2 : (p : Int) < (mid : Int) := by omega
            have r1d : decide ((a : Int) < (p : Int)) = true := decide_eq_true r1
            have r2d : decide ((p : Int) < (mid : Int)) = true := decide_eq_true r2
            have hc := IH.out a p mid d1 _ (by omega) Hz1.out hP4 hB4 c2.1 c2.2 (by omega)
            have e := Hd2.out
            rw [if_pos c2] at e
            rw [← e] at hc
            clear e
            go_wp2_with (fail)
            refine hc.mono ?_
            clear hc
            rintro e w5 ⟨rfl, hP5, hB5⟩
            clear r1 r2 r1d r2d
            by_cases c3 : mid < en ∧ en < b
            · have u1 : (mid : Int) < (en : Int) := by omega
              have u2 : (en : Int) < (b : Int) := by omega
              have u1d : decide ((mid : Int) < (en : Int)) = true := decide_eq_true u1
              have u2d : decide ((en : Int) < (b : Int)) = true := decide_eq_true u2
              have hc := IH.out mid en b d2 _ (by omega) Hz2.out hP5 hB5 c3.1 c3.2 hb
              have e := Hd3.out
              rw [if_pos c3] at e
              rw [← e] at hc
              clear e
              go_wp2_with (fail)
              all_goals refine hc.mono ?_
              all_goals clear hc
              all_goals rintro e w6 ⟨rfl, hP6, hB6⟩
              all_goals go_wp2
              all_goals refine bodyPost_end (results_none rfl _ _ _) rfl ⟨rfl, ?_, hB6⟩
              all_goals (rw [Hfin.out]; exact hP6)
            · have e := Hd3.out
              rw [if_neg c3] at e
              have hP6 := hP5
              rw [← e] at hP6
              clear e
              by_cases c3a : mid < en
              · have u1 : (mid : Int) < (en : Int) := by omega
                have u2 : ¬ (en : Int) < (b : Int) := by omega
                have u1d : decide ((mid : Int) < (en : Int)) = true := decide_eq_true u1
                have u2d : decide ((en : Int) < (b : Int)) = false := decide_eq_false u2
                go_wp2
                all_goals refine bodyPost_end (results_none rfl _ _ _) rfl ⟨rfl, ?_, hB5⟩
                all_goals (rw [Hfin.out]; exact hP6)
              · have u1 : ¬ (mid : Int) < (en : Int) := by omega
                have u1d : decide ((mid : Int) < (en : Int)) = false := decide_eq_false u1
                go_wp2
                all_goals refine bodyPost_end (results_none rfl _ _ _) rfl ⟨rfl, ?_, hB5⟩
                all_goals (rw [Hfin.out]; exact hP6)
          · have e := Hd2.out
            rw [if_neg c2] at e
            have hP5 := hP4
            rw [← e] at hP5
            have hB5 := hB4
            clear e
            by_cases c2a : a < p
            · have r1 : (a : Int) < (p : Int) := by omega
              have r2 : ¬ (p : Int) < (mid : Int) := by omega
              have r1d : decide ((a : Int) < (p : Int)) = true := decide_eq_true r1
              have r2d : decide ((p : Int) < (mid : Int)) = false := decide_eq_false r2
              by_cases c3 : mid < en ∧ en < b
              · have u1 : (mid : Int) < (en : Int) := by omega
                have u2 : (en : Int) < (b : Int) := by omega
                have u1d : decide ((mid : Int) < (en : Int)) = true := decide_eq_true u1
                have u2d : decide ((en : Int) < (b : Int)) = true := decide_eq_true u2
                have hc := IH.out mid en b d2 _ (by omega) Hz2.out hP5 hB5 c3.1 c3.2 hb
                have e := Hd3.out
                rw [if_pos c3] at e
                rw [← e] at hc
                clear e
                go_wp2_with (fail)
                all_goals refine hc.mono ?_
                all_goals clear hc
                all_goals rintro e w6 ⟨rfl, hP6, hB6⟩
                all_goals go_wp2
                all_goals refine bodyPost_end (results_none rfl _ _ _) rfl ⟨rfl, ?_, hB6⟩
                all_goals (rw [Hfin.out]; exact hP6)
              · have e := Hd3.out
                rw [if_neg c3] at e
                have hP6 := hP5
                rw [← e] at hP6
                clear e
                by_cases c3a : mid < en
                · have u1 : (mid : Int) < (en : Int) := by omega
                  have u2 : ¬ (en : Int) < (b : Int) := by omega
                  have u1d : decide ((mid : Int) < (en : Int)) = true := decide_eq_true u1
                  have u2d : decide ((en : Int) < (b : Int)) = false := decide_eq_false u2
                  go_wp2
                  all_goals refine bodyPost_end (results_none rfl _ _ _) rfl ⟨rfl, ?_, hB5⟩
                  all_goals (rw [Hfin.out]; exact hP6)
                · have u1 : ¬ (mid : Int) < (en : Int) := by omega
                  have u1d : decide ((mid : Int) < (en : Int)) = false := decide_eq_false u1
                  go_wp2
                  all_goals refine bodyPost_end (results_none rfl _ _ _) rfl ⟨rfl, ?_, hB5⟩
                  all_goals (rw [Hfin.out]; exact hP6)
            · have r1 : ¬ (a : Int) < (p : Int) := by omega
              have r1d : decide ((a : Int) < (p : Int)) = false := decide_eq_false r1
              by_cases c3 : mid < en ∧ en < b
              · have u1 : (mid : Int) < (en : Int) := by omega
                have u2 : (en : Int) < (b : Int) := by omega
                have u1d : decide ((mid : Int) < (en : Int)) = true := decide_eq_true u1
                have u2d : decide ((en : Int) < (b : Int)) = true := decide_eq_true u2
                have hc := IH.out mid en b d2 _ (by omega) Hz2.out hP5 hB5 c3.1 c3.2 hb
                have e := Hd3.out
                rw [if_pos c3] at e
                rw [← e] at hc
                clear e
                go_wp2_with (fail)
                all_goals refine hc.mono ?_
                all_goals clear hc
                all_goals rintro e w6 ⟨rfl, hP6, hB6⟩
                all_goals go_wp2
                all_goals refine bodyPost_end (results_none rfl _ _ _) rfl ⟨rfl, ?_, hB6⟩
                all_goals (rw [Hfin.out]; exact hP6)
              · have e := Hd3.out
                rw [if_neg c3] at e
                have hP6 := hP5
                rw [← e] at hP6
                clear e
                by_cases c3a : mid < en
                · have u1 : (mid : Int) < (en : Int) := by omega
                  have u2 : ¬ (en : Int) < (b : Int) := by omega
                  have u1d : decide ((mid : Int) < (en : Int)) = true := decide_eq_true u1
                  have u2d : decide ((en : Int) < (b : Int)) = false := decide_eq_false u2
                  go_wp2
                  all_goals refine bodyPost_end (results_none rfl _ _ _) rfl ⟨rfl, ?_, hB5⟩
                  all_goals (rw [Hfin.out]; exact hP6)
                · have u1 : ¬ (mid : Int) < (en : Int) := by omega
                  have u1d : decide ((mid : Int) < (en : Int)) = false := decide_eq_false u1
                  go_wp2
                  all_goals refine bodyPost_end (results_none rfl _ _ _) rfl ⟨rfl, ?_, hB5⟩
                  all_goals (rw [Hfin.out]; exact hP6)
        · have e := Hd1.out
          rw [if_neg c1] at e
          have hP4 : PlsD wr B d1 := e ▸ hPr
          have hB4 := hBr
          clear e
          have q12 : (decide ((p : Int) < (m : Int)) && decide ((m : Int) < (en : Int))) = false := by
            rw [Bool.and_eq_false_iff, decide_eq_false_iff_not, decide_eq_false_iff_not]; omega
          by_cases c1a : p < m
          · have q1d : decide ((p : Int) < (m : Int)) = true := decide_eq_true (by omega)
            have q2d : decide ((m : Int) < (en : Int)) = false := decide_eq_false (by omega)
            have q1 : (p : Int) < (m : Int) := by omega
            have q2 : ¬ (m : Int) < (en : Int) := by omega
            by_cases c2 : a < p ∧ p < mid
            · have r1 : (a : Int) < (p : Int) := by omega
              have r2 : (p : Int) < (mid : Int) := by omega
              have r1d : decide ((a : Int) < (p : Int)) = true := decide_eq_true r1
              have r2d : decide ((p : Int) < (mid : Int)) = true := decide_eq_true r2
              have hc := IH.out a p mid d1 _ (by omega) Hz1.out hP4 hB4 c2.1 c2.2 (by omega)
              have e := Hd2.out
              rw [if_pos c2] at e
              rw [← e] at hc
              clear e
              go_wp2_with (fail)
              refine hc.mono ?_
              clear hc
              rintro e w5 ⟨rfl, hP5, hB5⟩
              clear r1 r2 r1d r2d
              by_cases c3 : mid < en ∧ en < b
              · have u1 : (mid : Int) < (en : Int) := by omega
                have u2 : (en : Int) < (b : Int) := by omega
                have u1d : decide ((mid : Int) < (en : Int)) = true := decide_eq_true u1
                have u2d : decide ((en : Int) < (b : Int)) = true := decide_eq_true u2
                have hc := IH.out mid en b d2 _ (by omega) Hz2.out hP5 hB5 c3.1 c3.2 hb
                have e := Hd3.out
                rw [if_pos c3] at e
                rw [← e] at hc
                clear e
                go_wp2_with (fail)
                all_goals refine hc.mono ?_
                all_goals clear hc
                all_goals rintro e w6 ⟨rfl, hP6, hB6⟩
                all_goals go_wp2
                all_goals refine bodyPost_end (results_none rfl _ _ _) rfl ⟨rfl, ?_, hB6⟩
                all_goals (rw [Hfin.out]; exact hP6)
              · have e := Hd3.out
                rw [if_neg c3] at e
                have hP6 := hP5
                rw [← e] at hP6
                clear e
                by_cases c3a : mid < en
                · have u1 : (mid : Int) < (en : Int) := by omega
                  have u2 : ¬ (en : Int) < (b : Int) := by omega
                  have u1d : decide ((mid : Int) < (en : Int)) = true := decide_eq_true u1
                  have u2d : decide ((en : Int) < (b : Int)) = false := decide_eq_false u2
                  go_wp2
                  all_goals refine bodyPost_end (results_none rfl _ _ _) rfl ⟨rfl, ?_, hB5⟩
                  all_goals (rw [Hfin.out]; exact hP6)
                · have u1 : ¬ (mid : Int) < (en : Int) := by omega
                  have u1d : decide ((mid : Int) < (en : Int)) = false := decide_eq_false u1
                  go_wp2
                  all_goals refine bodyPost_end (results_none rfl _ _ _) rfl ⟨rfl, ?_, hB5⟩
                  all_goals (rw [Hfin.out]; exact hP6)
            · have e := Hd2.out
              rw [if_neg c2] at e
              have hP5 := hP4
              rw [← e] at hP5
              have hB5 := hB4
              clear e
              by_cases c2a : a < p
              · have r1 : (a : Int) < (p : Int) := by omega
                have r2 : ¬ (p : Int) < (mid : Int) := by omega
                have r1d : decide ((a : Int) < (p : Int)) = true := decide_eq_true r1
                have r2d : decide ((p : Int) < (mid : Int)) = false := decide_eq_false r2
                by_cases c3 : mid < en ∧ en < b
                · have u1 : (mid : Int) < (en : Int) := by omega
                  have u2 : (en : Int) < (b : Int) := by omega
                  have u1d : decide ((mid : Int) < (en : Int)) = true := decide_eq_true u1
                  have u2d : decide ((en : Int) < (b : Int)) = true := decide_eq_true u2
                  have hc := IH.out mid en b d2 _ (by omega) Hz2.out hP5 hB5 c3.1 c3.2 hb
                  have e := Hd3.out
                  rw [if_pos c3] at e
                  rw [← e] at hc
                  clear e
                  go_wp2_with (fail)
                  all_goals refine hc.mono ?_
                  all_goals clear hc
                  all_goals rintro e w6 ⟨rfl, hP6, hB6⟩
                  all_goals go_wp2
                  all_goals refine bodyPost_end (results_none rfl _ _ _) rfl ⟨rfl, ?_, hB6⟩
                  all_goals (rw [Hfin.out]; exact hP6)
                · have e := Hd3.out
                  rw [if_neg c3] at e
                  have hP6 := hP5
                  rw [← e] at hP6
                  clear e
                  by_cases c3a : mid < en
                  · have u1 : (mid : Int) < (en : Int) := by omega
                    have u2 : ¬ (en : Int) < (b : Int) := by omega
                    have u1d : decide ((mid : Int) < (en : Int)) = true := decide_eq_true u1
                    have u2d : decide ((en : Int) < (b : Int)) = false := decide_eq_false u2
                    go_wp2
                    all_goals refine bodyPost_end (results_none rfl _ _ _) rfl ⟨rfl, ?_, hB5⟩
                    all_goals (rw [Hfin.out]; exact hP6)
                  · have u1 : ¬ (mid : Int) < (en : Int) := by omega
                    have u1d : decide ((mid : Int) < (en : Int)) = false := decide_eq_false u1
                    go_wp2
                    all_goals refine bodyPost_end (results_none rfl _ _ _) rfl ⟨rfl, ?_, hB5⟩
                    all_goals (rw [Hfin.out]; exact hP6)
              · have r1 : ¬ (a : Int) < (p : Int) := by omega
                have r1d : decide ((a : Int) < (p : Int)) = false := decide_eq_false r1
                by_cases c3 : mid < en ∧ en < b
                · have u1 : (mid : Int) < (en : Int) := by omega
                  have u2 : (en : Int) < (b : Int) := by omega
                  have u1d : decide ((mid : Int) < (en : Int)) = true := decide_eq_true u1
                  have u2d : decide ((en : Int) < (b : Int)) = true := decide_eq_true u2
                  have hc := IH.out mid en b d2 _ (by omega) Hz2.out hP5 hB5 c3.1 c3.2 hb
                  have e := Hd3.out
                  rw [if_pos c3] at e
                  rw [← e] at hc
                  clear e
                  go_wp2_with (fail)
                  all_goals refine hc.mono ?_
                  all_goals clear hc
                  all_goals rintro e w6 ⟨rfl, hP6, hB6⟩
                  all_goals go_wp2
                  all_goals refine bodyPost_end (results_none rfl _ _ _) rfl ⟨rfl, ?_, hB6⟩
                  all_goals (rw [Hfin.out]; exact hP6)
                · have e := Hd3.out
                  rw [if_neg c3] at e
                  have hP6 := hP5
                  rw [← e] at hP6
                  clear e
                  by_cases c3a : mid < en
                  · have u1 : (mid : Int) < (en : Int) := by omega
                    have u2 : ¬ (en : Int) < (b : Int) := by omega
                    have u1d : decide ((mid : Int) < (en : Int)) = true := decide_eq_true u1
                    have u2d : decide ((en : Int) < (b : Int)) = false := decide_eq_false u2
                    go_wp2
                    all_goals refine bodyPost_end (results_none rfl _ _ _) rfl ⟨rfl, ?_, hB5⟩
                    all_goals (rw [Hfin.out]; exact hP6)
                  · have u1 : ¬ (mid : Int) < (en : Int) := by omega
                    have u1d : decide ((mid : Int) < (en : Int)) = false := decide_eq_false u1
                    go_wp2
                    all_goals refine bodyPost_end (results_none rfl _ _ _) rfl ⟨rfl, ?_, hB5⟩
                    all_goals (rw [Hfin.out]; exact hP6)
          · have q1d : decide ((p : Int) < (m : Int)) = false := decide_eq_false (by omega)
            have q1 : ¬ (p : Int) < (m : Int) := by omega
            by_cases c2 : a < p ∧ p < mid
            · have r1 : (a : Int) < (p : Int) := by omega
              have r2 : (p : Int) < (mid : Int) := by omega
              have r1d : decide ((a : Int) < (p : Int)) = true := decide_eq_true r1
              have r2d : decide ((p : Int) < (mid : Int)) = true := decide_eq_true r2
              have hc := IH.out a p mid d1 _ (by omega) Hz1.out hP4 hB4 c2.1 c2.2 (by omega)
              have e := Hd2.out
              rw [if_pos c2] at e
              rw [← e] at hc
              clear e
              go_wp2_with (fail)
              refine hc.mono ?_
              clear hc
              rintro e w5 ⟨rfl, hP5, hB5⟩
              clear r1 r2 r1d r2d
              by_cases c3 : mid < en ∧ en < b
              · have u1 : (mid : Int) < (en : Int) := by omega
                have u2 : (en : Int) < (b : Int) := by omega
                have u1d : decide ((mid : Int) < (en : Int)) = true := decide_eq_true u1
                have u2d : decide ((en : Int) < (b : Int)) = true := decide_eq_true u2
                have hc := IH.out mid en b d2 _ (by omega) Hz2.out hP5 hB5 c3.1 c3.2 hb
                have e := Hd3.out
                rw [if_pos c3] at e
                rw [← e] at hc
                clear e
                go_wp2_with (fail)
                all_goals refine hc.mono ?_
                all_goals clear hc
                all_goals rintro e w6 ⟨rfl, hP6, hB6⟩
                all_goals go_wp2
                all_goals refine bodyPost_end (results_none rfl _ _ _) rfl ⟨rfl, ?_, hB6⟩
                all_goals (rw [Hfin.out]; exact hP6)
              · have e := Hd3.out
                rw [if_neg c3] at e
                have hP6 := hP5
                rw [← e] at hP6
                clear e
                by_cases c3a : mid < en
                · have u1 : (mid : Int) < (en : Int) := by omega
                  have u2 : ¬ (en : Int) < (b : Int) := by omega
                  have u1d : decide ((mid : Int) < (en : Int)) = true := decide_eq_true u1
                  have u2d : decide ((en : Int) < (b : Int)) = false := decide_eq_false u2
                  go_wp2
                  all_goals refine bodyPost_end (results_none rfl _ _ _) rfl ⟨rfl, ?_, hB5⟩
                  all_goals (rw [Hfin.out]; exact hP6)
                · have u1 : ¬ (mid : Int) < (en : Int) := by omega
                  have u1d : decide ((mid : Int) < (en : Int)) = false := decide_eq_false u1
                  go_wp2
                  all_goals refine bodyPost_end (results_none rfl _ _ _) rfl ⟨rfl, ?_, hB5⟩
                  all_goals (rw [Hfin.out]; exact hP6)
            · have e := Hd2.out
              rw [if_neg c2] at e
              have hP5 := hP4
              rw [← e] at hP5
              have hB5 := hB4
              clear e
              by_cases c2a : a < p
              · have r1 : (a : Int) < (p : Int) := by omega
                have r2 : ¬ (p : Int) < (mid : Int) := by omega
                have r1d : decide ((a : Int) < (p : Int)) = true := decide_eq_true r1
                have r2d : decide ((p : Int) < (mid : Int)) = false := decide_eq_false r2
                by_cases c3 : mid < en ∧ en < b
                · have u1 : (mid : Int) < (en : Int) := by omega
                  have u2 : (en : Int) < (b : Int) := by omega
                  have u1d : decide ((mid : Int) < (en : Int)) = true := decide_eq_true u1
                  have u2d : decide ((en : Int) < (b : Int)) = true := decide_eq_true u2
                  have hc := IH.out mid en b d2 _ (by omega) Hz2.out hP5 hB5 c3.1 c3.2 hb
                  have e := Hd3.out
                  rw [if_pos c3] at e
                  rw [← e] at hc
                  clear e
                  go_wp2_with (fail)
                  all_goals refine hc.mono ?_
                  all_goals clear hc
                  all_goals rintro e w6 ⟨rfl, hP6, hB6⟩
                  all_goals go_wp2
                  all_goals refine bodyPost_end (results_none rfl _ _ _) rfl ⟨rfl, ?_, hB6⟩
                  all_goals (rw [Hfin.out]; exact hP6)
                · have e := Hd3.out
                  rw [if_neg c3] at e
                  have hP6 := hP5
                  rw [← e] at hP6
                  clear e
                  by_cases c3a : mid < en
                  · have u1 : (mid : Int) < (en : Int) := by omega
                    have u2 : ¬ (en : Int) < (b : Int) := by omega
                    have u1d : decide ((mid : Int) < (en : Int)) = true := decide_eq_true u1
                    have u2d : decide ((en : Int) < (b : Int)) = false := decide_eq_false u2
                    go_wp2
                    all_goals refine bodyPost_end (results_none rfl _ _ _) rfl ⟨rfl, ?_, hB5⟩
                    all_goals (rw [Hfin.out]; exact hP6)
                  · have u1 : ¬ (mid : Int) < (en : Int) := by omega
                    have u1d : decide ((mid : Int) < (en : Int)) = false := decide_eq_false u1
                    go_wp2
                    all_goals refine bodyPost_end (results_none rfl _ _ _) rfl ⟨rfl, ?_, hB5⟩
                    all_goals (rw [Hfin.out]; exact hP6)
              · have r1 : ¬ (a : Int) < (p : Int) := by omega
                have r1d : decide ((a : Int) < (p : Int)) = false := decide_eq_false r1
                by_cases c3 : mid < en ∧ en < b
                · have u1 : (mid : Int) < (en : Int) := by omega
                  have u2 : (en : Int) < (b : Int) := by omega
                  have u1d : decide ((mid : Int) < (en : Int)) = true := decide_eq_true u1
                  have u2d : decide ((en : Int) < (b : Int)) = true := decide_eq_true u2
                  have hc := IH.out mid en b d2 _ (by omega) Hz2.out hP5 hB5 c3.1 c3.2 hb
                  have e := Hd3.out
                  rw [if_pos c3] at e
                  rw [← e] at hc
                  clear e
                  go_wp2_with (fail)
                  all_goals refine hc.mono ?_
                  all_goals clear hc
                  all_goals rintro e w6 ⟨rfl, hP6, hB6⟩
                  all_goals go_wp2
                  all_goals refine bodyPost_end (results_none rfl _ _ _) rfl ⟨rfl, ?_, hB6⟩
                  all_goals (rw [Hfin.out]; exact hP6)
                · have e := Hd3.out
                  rw [if_neg c3] at e
                  have hP6 := hP5
                  rw [← e] at hP6
                  clear e
                  by_cases c3a : mid < en
                  · have u1 : (mid : Int) < (en : Int) := by omega
                    have u2 : ¬ (en : Int) < (b : Int) := by omega
                    have u1d : decide ((mid : Int) < (en : Int)) = true := decide_eq_true u1
                    have u2d : decide ((en : Int) < (b : Int)) = false := decide_eq_false u2
                    go_wp2
                    all_goals refine bodyPost_end (results_none rfl _ _ _) rfl ⟨rfl, ?_, hB5⟩
                    all_goals (rw [Hfin.out]; exact hP6)
                  · have u1 : ¬ (mid : Int) < (en : Int) := by omega
                    have u1d : decide ((mid : Int) < (en : Int)) = false := decide_eq_false u1
                    go_wp2
                    all_goals refine bodyPost_end (results_none rfl _ _ _) rfl ⟨rfl, ?_, hB5⟩
                    all_goals (rw [Hfin.out]; exact hP6)
  · have hlz : ¬ (mid : Int) < (m : Int) := by omega
    have hlzd : decide ((mid : Int) < (m : Int)) = false := decide_eq_false hlz
    have E1 : Hid (Value.int IntKind.i64 (a : Int) = Value.int .i64 (s0 : Int)) := by show _ = _; rw [e1]
    have E2 : Hid (Value.int IntKind.i64 (m : Int) = Value.int .i64 (r0 : Int)) := by show _ = _; rw [e2]
    clear e1 e2 hlm
    go_wp2
    clear hlz hlzd hwm hwb ht1 ht2 hwnb hz hwn hwp
    go_loopw [20, 21] (fun i j wr => ∃ p q : Nat, s0 ≤ p ∧ p ≤ q ∧ q ≤ r0 ∧ i = .int .i64 p ∧ j = .int .i64 q ∧ PlsD wr B d ∧ RowKit.Below n0 w0 wr ∧ Hid (bsc pr p q = bsc pr s0 r0)) (fun i j _ => (intOf j).toNat - (intOf i).toNat)
    case atStart => exact ⟨s0, r0, Nat.le_refl _, hb1, Nat.le_refl _, E1.out, E2.out, hP, hB, rfl⟩
    case round =>
      obtain ⟨p, q, hp1, hp2, hp3, rfl, rfl, hPr, hBr, HR⟩ := hrel
      by_cases hlt : p < q
      · have hltz : (p : Int) < (q : Int) := by omega
        obtain ⟨h, hh⟩ : ∃ h, h = (p + q) / 2 := ⟨_, rfl⟩
        have hR := HR.out
        rw [bsc_go pr p q hlt, ← hh] at hR
        have hz : ((p : Int) + (q : Int)) / 2 = (h : Int) := by omega
        have hb6 : p ≤ h := by omega
        have hb7 : h < q := by omega
        obtain ⟨pc, hpc⟩ : ∃ pc, pc = mid + m - 1 - h := ⟨_, rfl⟩
        have epc : (mid : Int) + (m : Int) - 1 - (h : Int) = (pc : Int) := by omega
        have pc1 : (pc : Int) < (n : Int) := by omega
        have pcn : pc < n := by omega
        have hhn : h < n := by omega
        have hhz : (h : Int) < (n : Int) := by omega
        have hwpc : IntKind.i64.wrap (pc : Int) = (pc : Int) := by rw [IntKind.wrap_i64]; omega
        have hwh : IntKind.i64.wrap ((h : Int) + 1) = (h : Int) + 1 := by rw [IntKind.wrap_i64]; omega
        have Hh := Lib.hid hh; clear hh
        have HR2 := Lib.hid hR; clear hR
        have hg1 := hPr.get pc (by rw [← HN.out]; exact pcn)
        have hg2 := hPr.get h (by rw [← HN.out]; exact hhn)
        obtain ⟨x, hx⟩ : ∃ x, x = d[pc]! := ⟨_, rfl⟩
        obtain ⟨y, hy⟩ : ∃ y, y = d[h]! := ⟨_, rfl⟩
        rw [← hx] at hg1
        rw [← hy] at hg2
        obtain ⟨hxn, cj⟩ := hg1
        obtain ⟨hyn, cp⟩ := hg2
        have hpv : pr h = !decide (cf x y < 0) := by rw [Hpr.out, hx, hy, hpc]; rfl
        have Hpv := Lib.hid hpv; clear hpv
        have Hpc := Lib.hid hpc; clear hpc
        clear hx hy
        have hc := HC.out x y hxn hyn
        clear hxn hyn
        obtain ⟨v, hv⟩ : ∃ v, v = cf x y := ⟨_, rfl⟩
        rw [← hv] at hc Hpv
        clear hv
        have hB1 := hBr.drew
        have hPd := hPr.drew
        go_wp2_with (fail)
        go_still_tail 11, (by kernel_rfl)
        change wpList _ _ _ _ _ wr.drew
        clear cj cp
        generalize wr.drew = wd at *
        go_wp2_with (fail)
        refine (hc _ hB1).mono ?_
        clear hc
        rintro e w3 ⟨rfl, hB3⟩
        have hP3 := hPd.below hB3
        have hb3x : RowKit.Below n0 w0 w3 := hB1.trans (hB3.mono (by have := hB1.size; omega))
        clear hPd hPr hB1
        by_cases hv : v < 0
        · have e := HR2.out
          rw [Hpv.out, decide_eq_true hv, if_neg (by simp)] at e
          have HR3 := Lib.hid e; clear e
          have hvd : decide (v < 0) = true := decide_eq_true hv
          go_wp2
          go_roundw
          case rel => exact ⟨p, h, by omega, by omega, by omega, rfl, by first | rfl | go_num, hP3, hb3x, HR3⟩
          case measure => simp [intOf]; omega
        · have e := HR2.out
          rw [Hpv.out, decide_eq_false hv, if_pos (by simp : (!false) = true)] at e
          have HR3 := Lib.hid e; clear e
          have hvd : decide (v < 0) = false := decide_eq_false hv
          go_wp2
          go_roundw
          case rel => exact ⟨h + 1, q, by omega, by omega, hp3, by go_num, rfl, hP3, hb3x, HR3⟩
          case measure => simp [intOf]; omega
      · obtain rfl : p = q := by omega
        have hs := HR.out
        rw [bsc_end] at hs
        have hfin := Hfin.out
        rw [← hs] at hfin
        clear hs HR hlt Hfin
        obtain ⟨en, hen⟩ : ∃ en, en = mid + m - p := ⟨_, rfl⟩
        rw [← hen] at hfin
        have ez : (mid : Int) + (m : Int) - (p : Int) = (en : Int) := by omega
        have hwe : IntKind.i64.wrap (en : Int) = (en : Int) := by rw [IntKind.wrap_i64]; omega
        have hen1 : en ≤ b := by omega
        have hen2 : m ≤ en := by omega
        have hen3 : p ≤ m := by omega
        have hen4 : p ≤ mid := by omega
        have hen5 : en = mid + m - p := hen
        have Hen := Lib.hid hen; clear hen hen5
        obtain ⟨d1, hd1⟩ : ∃ d1, d1 = if p < m ∧ m < en then rotate d p m en else d := ⟨_, rfl⟩
        obtain ⟨d2, hd2⟩ : ∃ d2, d2 = if a < p ∧ p < mid then symM (ltC cf) f a p mid d1 else d1 := ⟨_, rfl⟩
        obtain ⟨d3, hd3⟩ : ∃ d3, d3 = if mid < en ∧ en < b then symM (ltC cf) f mid en b d2 else d2 := ⟨_, rfl⟩
        rw [← hd1, ← hd2, ← hd3] at hfin
        have hz1 : d1.size = n := by
          rw [hd1]; split
          · rw [rotate_size]; exact HN.out.symm
          · exact HN.out.symm
        have hz2 : d2.size = n := by
          rw [hd2]; split
          · rw [symM_size]; exact hz1
          · exact hz1
        have Hz1 := Lib.hid hz1; clear hz1
        have Hz2 := Lib.hid hz2; clear hz2
        have Hfin := Lib.hid hfin; clear hfin
        have Hd1 := Lib.hid hd1; clear hd1
        have Hd2 := Lib.hid hd2; clear hd2
        have Hd3 := Lib.hid hd3; clear hd3
        by_cases c1 : p < m ∧ m < en
        · have q1 : (p : Int) < (m : Int) := by omega
          have q2 : (m : Int) < (en : Int) := by omega
          have q1d : decide ((p : Int) < (m : Int)) = true := decide_eq_true q1
          have q2d : decide ((m : Int) < (en : Int)) = true := decide_eq_true q2
          have hc := rotate_any n0 B cap p m en d (.func (.func g) #[] cb) w0 wr hPr hBr hB0 c1.1 c1.2 (by rw [← HN.out]; omega) (by rw [← HN.out]; exact hn)
          have e := Hd1.out
          rw [if_pos c1] at e
          rw [← e, ← HN.out] at hc
          clear e
          go_wp2_with (fail)
          refine hc.mono ?_
          clear hc
          rintro e w4 ⟨rfl, hP4, hB4⟩
          clear q1 q2 q1d q2d
          by_cases c2 : a < p ∧ p < mid
          · have r1 : (a : Int) < (p : Int) := by omega
            have r2 : (p : Int) < (mid : Int) := by omega
            have r1d : decide ((a : Int) < (p : Int)) = true := decide_eq_true r1
            have r2d : decide ((p : Int) < (mid : Int)) = true := decide_eq_true r2
            have hc := IH.out a p mid d1 _ (by omega) Hz1.out hP4 hB4 c2.1 c2.2 (by omega)
            have e := Hd2.out
            rw [if_pos c2] at e
            rw [← e] at hc
            clear e
            go_wp2_with (fail)
            refine hc.mono ?_
            clear hc
            rintro e w5 ⟨rfl, hP5, hB5⟩
            clear r1 r2 r1d r2d
            by_cases c3 : mid < en ∧ en < b
            · have u1 : (mid : Int) < (en : Int) := by omega
              have u2 : (en : Int) < (b : Int) := by omega
              have u1d : decide ((mid : Int) < (en : Int)) = true := decide_eq_true u1
              have u2d : decide ((en : Int) < (b : Int)) = true := decide_eq_true u2
              have hc := IH.out mid en b d2 _ (by omega) Hz2.out hP5 hB5 c3.1 c3.2 hb
              have e := Hd3.out
              rw [if_pos c3] at e
              rw [← e] at hc
              clear e
              go_wp2_with (fail)
              all_goals refine hc.mono ?_
              all_goals clear hc
              all_goals rintro e w6 ⟨rfl, hP6, hB6⟩
              all_goals go_wp2
              all_goals refine bodyPost_end (results_none rfl _ _ _) rfl ⟨rfl, ?_, hB6⟩
              all_goals (rw [Hfin.out]; exact hP6)
            · have e := Hd3.out
              rw [if_neg c3] at e
              have hP6 := hP5
              rw [← e] at hP6
              clear e
              by_cases c3a : mid < en
              · have u1 : (mid : Int) < (en : Int) := by omega
                have u2 : ¬ (en : Int) < (b : Int) := by omega
                have u1d : decide ((mid : Int) < (en : Int)) = true := decide_eq_true u1
                have u2d : decide ((en : Int) < (b : Int)) = false := decide_eq_false u2
                go_wp2
                all_goals refine bodyPost_end (results_none rfl _ _ _) rfl ⟨rfl, ?_, hB5⟩
                all_goals (rw [Hfin.out]; exact hP6)
              · have u1 : ¬ (mid : Int) < (en : Int) := by omega
                have u1d : decide ((mid : Int) < (en : Int)) = false := decide_eq_false u1
                go_wp2
                all_goals refine bodyPost_end (results_none rfl _ _ _) rfl ⟨rfl, ?_, hB5⟩
                all_goals (rw [Hfin.out]; exact hP6)
          · have e := Hd2.out
            rw [if_neg c2] at e
            have hP5 := hP4
            rw [← e] at hP5
            have hB5 := hB4
            clear e
            by_cases c2a : a < p
            · have r1 : (a : Int) < (p : Int) := by omega
              have r2 : ¬ (p : Int) < (mid : Int) := by omega
              have r1d : decide ((a : Int) < (p : Int)) = true := decide_eq_true r1
              have r2d : decide ((p : Int) < (mid : Int)) = false := decide_eq_false r2
              by_cases c3 : mid < en ∧ en < b
              · have u1 : (mid : Int) < (en : Int) := by omega
                have u2 : (en : Int) < (b : Int) := by omega
                have u1d : decide ((mid : Int) < (en : Int)) = true := decide_eq_true u1
                have u2d : decide ((en : Int) < (b : Int)) = true := decide_eq_true u2
                have hc := IH.out mid en b d2 _ (by omega) Hz2.out hP5 hB5 c3.1 c3.2 hb
                have e := Hd3.out
                rw [if_pos c3] at e
                rw [← e] at hc
                clear e
                go_wp2_with (fail)
                all_goals refine hc.mono ?_
                all_goals clear hc
                all_goals rintro e w6 ⟨rfl, hP6, hB6⟩
                all_goals go_wp2
                all_goals refine bodyPost_end (results_none rfl _ _ _) rfl ⟨rfl, ?_, hB6⟩
                all_goals (rw [Hfin.out]; exact hP6)
              · have e := Hd3.out
                rw [if_neg c3] at e
                have hP6 := hP5
                rw [← e] at hP6
                clear e
                by_cases c3a : mid < en
                · have u1 : (mid : Int) < (en : Int) := by omega
                  have u2 : ¬ (en : Int) < (b : Int) := by omega
                  have u1d : decide ((mid : Int) < (en : Int)) = true := decide_eq_true u1
                  have u2d : decide ((en : Int) < (b : Int)) = false := decide_eq_false u2
                  go_wp2
                  all_goals refine bodyPost_end (results_none rfl _ _ _) rfl ⟨rfl, ?_, hB5⟩
                  all_goals (rw [Hfin.out]; exact hP6)
                · have u1 : ¬ (mid : Int) < (en : Int) := by omega
                  have u1d : decide ((mid : Int) < (en : Int)) = false := decide_eq_false u1
                  go_wp2
                  all_goals refine bodyPost_end (results_none rfl _ _ _) rfl ⟨rfl, ?_, hB5⟩
                  all_goals (rw [Hfin.out]; exact hP6)
            · have r1 : ¬ (a : Int) < (p : Int) := by omega
              have r1d : decide ((a : Int) < (p : Int)) = false := decide_eq_false r1
              by_cases c3 : mid < en ∧ en < b
              · have u1 : (mid : Int) < (en : Int) := by omega
                have u2 : (en : Int) < (b : Int) := by omega
                have u1d : decide ((mid : Int) < (en : Int)) = true := decide_eq_true u1
                have u2d : decide ((en : Int) < (b : Int)) = true := decide_eq_true u2
                have hc := IH.out mid en b d2 _ (by omega) Hz2.out hP5 hB5 c3.1 c3.2 hb
                have e := Hd3.out
                rw [if_pos c3] at e
                rw [← e] at hc
                clear e
                go_wp2_with (fail)
                all_goals refine hc.mono ?_
                all_goals clear hc
                all_goals rintro e w6 ⟨rfl, hP6, hB6⟩
                all_goals go_wp2
                all_goals refine bodyPost_end (results_none rfl _ _ _) rfl ⟨rfl, ?_, hB6⟩
                all_goals (rw [Hfin.out]; exact hP6)
              · have e := Hd3.out
                rw [if_neg c3] at e
                have hP6 := hP5
                rw [← e] at hP6
                clear e
                by_cases c3a : mid < en
                · have u1 : (mid : Int) < (en : Int) := by omega
                  have u2 : ¬ (en : Int) < (b : Int) := by omega
                  have u1d : decide ((mid : Int) < (en : Int)) = true := decide_eq_true u1
                  have u2d : decide ((en : Int) < (b : Int)) = false := decide_eq_false u2
                  go_wp2
                  all_goals refine bodyPost_end (results_none rfl _ _ _) rfl ⟨rfl, ?_, hB5⟩
                  all_goals (rw [Hfin.out]; exact hP6)
                · have u1 : ¬ (mid : Int) < (en : Int) := by omega
                  have u1d : decide ((mid : Int) < (en : Int)) = false := decide_eq_false u1
                  go_wp2
                  all_goals refine bodyPost_end (results_none rfl _ _ _) rfl ⟨rfl, ?_, hB5⟩
                  all_goals (rw [Hfin.out]; exact hP6)
        · have e := Hd1.out
          rw [if_neg c1] at e
          have hP4 : PlsD wr B d1 := e ▸ hPr
          have hB4 := hBr
          clear e
          have q12 : (decide ((p : Int) < (m : Int)) && decide ((m : Int) < (en : Int))) = false := by
            rw [Bool.and_eq_false_iff, decide_eq_false_iff_not, decide_eq_false_iff_not]; omega
          by_cases c1a : p < m
          · have q1d : decide ((p : Int) < (m : Int)) = true := decide_eq_true (by omega)
            have q2d : decide ((m : Int) < (en : Int)) = false := decide_eq_false (by omega)
            have q1 : (p : Int) < (m : Int) := by omega
            have q2 : ¬ (m : Int) < (en : Int) := by omega
            by_cases c2 : a < p ∧ p < mid
            · have r1 : (a : Int) < (p : Int) := by omega
              have r2 : (p : Int) < (mid : Int) := by omega
              have r1d : decide ((a : Int) < (p : Int)) = true := decide_eq_true r1
              have r2d : decide ((p : Int) < (mid : Int)) = true := decide_eq_true r2
              have hc := IH.out a p mid d1 _ (by omega) Hz1.out hP4 hB4 c2.1 c2.2 (by omega)
              have e := Hd2.out
              rw [if_pos c2] at e
              rw [← e] at hc
              clear e
              go_wp2_with (fail)
              refine hc.mono ?_
              clear hc
              rintro e w5 ⟨rfl, hP5, hB5⟩
              clear r1 r2 r1d r2d
              by_cases c3 : mid < en ∧ en < b
              · have u1 : (mid : Int) < (en : Int) := by omega
                have u2 : (en : Int) < (b : Int) := by omega
                have u1d : decide ((mid : Int) < (en : Int)) = true := decide_eq_true u1
                have u2d : decide ((en : Int) < (b : Int)) = true := decide_eq_true u2
                have hc := IH.out mid en b d2 _ (by omega) Hz2.out hP5 hB5 c3.1 c3.2 hb
                have e := Hd3.out
                rw [if_pos c3] at e
                rw [← e] at hc
                clear e
                go_wp2_with (fail)
                all_goals refine hc.mono ?_
                all_goals clear hc
                all_goals rintro e w6 ⟨rfl, hP6, hB6⟩
                all_goals go_wp2
                all_goals refine bodyPost_end (results_none rfl _ _ _) rfl ⟨rfl, ?_, hB6⟩
                all_goals (rw [Hfin.out]; exact hP6)
              · have e := Hd3.out
                rw [if_neg c3] at e
                have hP6 := hP5
                rw [← e] at hP6
                clear e
                by_cases c3a : mid < en
                · have u1 : (mid : Int) < (en : Int) := by omega
                  have u2 : ¬ (en : Int) < (b : Int) := by omega
                  have u1d : decide ((mid : Int) < (en : Int)) = true := decide_eq_true u1
                  have u2d : decide ((en : Int) < (b : Int)) = false := decide_eq_false u2
                  go_wp2
                  all_goals refine bodyPost_end (results_none rfl _ _ _) rfl ⟨rfl, ?_, hB5⟩
                  all_goals (rw [Hfin.out]; exact hP6)
                · have u1 : ¬ (mid : Int) < (en : Int) := by omega
                  have u1d : decide ((mid : Int) < (en : Int)) = false := decide_eq_false u1
                  go_wp2
                  all_goals refine bodyPost_end (results_none rfl _ _ _) rfl ⟨rfl, ?_, hB5⟩
                  all_goals (rw [Hfin.out]; exact hP6)
            · have e := Hd2.out
              rw [if_neg c2] at e
              have hP5 := hP4
              rw [← e] at hP5
              have hB5 := hB4
              clear e
              by_cases c2a : a < p
              · have r1 : (a : Int) < (p : Int) := by omega
                have r2 : ¬ (p : Int) < (mid : Int) := by omega
                have r1d : decide ((a : Int) < (p : Int)) = true := decide_eq_true r1
                have r2d : decide ((p : Int) < (mid : Int)) = false := decide_eq_false r2
                by_cases c3 : mid < en ∧ en < b
                · have u1 : (mid : Int) < (en : Int) := by omega
                  have u2 : (en : Int) < (b : Int) := by omega
                  have u1d : decide ((mid : Int) < (en : Int)) = true := decide_eq_true u1
                  have u2d : decide ((en : Int) < (b : Int)) = true := decide_eq_true u2
                  have hc := IH.out mid en b d2 _ (by omega) Hz2.out hP5 hB5 c3.1 c3.2 hb
                  have e := Hd3.out
                  rw [if_pos c3] at e
                  rw [← e] at hc
                  clear e
                  go_wp2_with (fail)
                  all_goals refine hc.mono ?_
                  all_goals clear hc
                  all_goals rintro e w6 ⟨rfl, hP6, hB6⟩
                  all_goals go_wp2
                  all_goals refine bodyPost_end (results_none rfl _ _ _) rfl ⟨rfl, ?_, hB6⟩
                  all_goals (rw [Hfin.out]; exact hP6)
                · have e := Hd3.out
                  rw [if_neg c3] at e
                  have hP6 := hP5
                  rw [← e] at hP6
                  clear e
                  by_cases c3a : mid < en
                  · have u1 : (mid : Int) < (en : Int) := by omega
                    have u2 : ¬ (en : Int) < (b : Int) := by omega
                    have u1d : decide ((mid : Int) < (en : Int)) = true := decide_eq_true u1
                    have u2d : decide ((en : Int) < (b : Int)) = false := decide_eq_false u2
                    go_wp2
                    all_goals refine bodyPost_end (results_none rfl _ _ _) rfl ⟨rfl, ?_, hB5⟩
                    all_goals (rw [Hfin.out]; exact hP6)
                  · have u1 : ¬ (mid : Int) < (en : Int) := by omega
                    have u1d : decide ((mid : Int) < (en : Int)) = false := decide_eq_false u1
                    go_wp2
                    all_goals refine bodyPost_end (results_none rfl _ _ _) rfl ⟨rfl, ?_, hB5⟩
                    all_goals (rw [Hfin.out]; exact hP6)
              · have r1 : ¬ (a : Int) < (p : Int) := by omega
                have r1d : decide ((a : Int) < (p : Int)) = false := decide_eq_false r1
                by_cases c3 : mid < en ∧ en < b
                · have u1 : (mid : Int) < (en : Int) := by omega
                  have u2 : (en : Int) < (b : Int) := by omega
                  have u1d : decide ((mid : Int) < (en : Int)) = true := decide_eq_true u1
                  have u2d : decide ((en : Int) < (b : Int)) = true := decide_eq_true u2
                  have hc := IH.out mid en b d2 _ (by omega) Hz2.out hP5 hB5 c3.1 c3.2 hb
                  have e := Hd3.out
                  rw [if_pos c3] at e
                  rw [← e] at hc
                  clear e
                  go_wp2_with (fail)
                  all_goals refine hc.mono ?_
                  all_goals clear hc
                  all_goals rintro e w6 ⟨rfl, hP6, hB6⟩
                  all_goals go_wp2
                  all_goals refine bodyPost_end (results_none rfl _ _ _) rfl ⟨rfl, ?_, hB6⟩
                  all_goals (rw [Hfin.out]; exact hP6)
                · have e := Hd3.out
                  rw [if_neg c3] at e
                  have hP6 := hP5
                  rw [← e] at hP6
                  clear e
                  by_cases c3a : mid < en
                  · have u1 : (mid : Int) < (en : Int) := by omega
                    have u2 : ¬ (en : Int) < (b : Int) := by omega
                    have u1d : decide ((mid : Int) < (en : Int)) = true := decide_eq_true u1
                    have u2d : decide ((en : Int) < (b : Int)) = false := decide_eq_false u2
                    go_wp2
                    all_goals refine bodyPost_end (results_none rfl _ _ _) rfl ⟨rfl, ?_, hB5⟩
                    all_goals (rw [Hfin.out]; exact hP6)
                  · have u1 : ¬ (mid : Int) < (en : Int) := by omega
                    have u1d : decide ((mid : Int) < (en : Int)) = false := decide_eq_false u1
                    go_wp2
                    all_goals refine bodyPost_end (results_none rfl _ _ _) rfl ⟨rfl, ?_, hB5⟩
                    all_goals (rw [Hfin.out]; exact hP6)
          · have q1d : decide ((p : Int) < (m : Int)) = false := decide_eq_false (by omega)
            have q1 : ¬ (p : Int) < (m : Int) := by omega
            by_cases c2 : a < p ∧ p < mid
            · have r1 : (a : Int) < (p : Int) := by omega
              have r2 : (p : Int) < (mid : Int) := by omega
              have r1d : decide ((a : Int) < (p : Int)) = true := decide_eq_true r1
              have r2d : decide ((p : Int) < (mid : Int)) = true := decide_eq_true r2
              have hc := IH.out a p mid d1 _ (by omega) Hz1.out hP4 hB4 c2.1 c2.2 (by omega)
              have e := Hd2.out
              rw [if_pos c2] at e
              rw [← e] at hc
              clear e
              go_wp2_with (fail)
              refine hc.mono ?_
              clear hc
              rintro e w5 ⟨rfl, hP5, hB5⟩
              clear r1 r2 r1d r2d
              by_cases c3 : mid < en ∧ en < b
              · have u1 : (mid : Int) < (en : Int) := by omega
                have u2 : (en : Int) < (b : Int) := by omega
                have u1d : decide ((mid : Int) < (en : Int)) = true := decide_eq_true u1
                have u2d : decide ((en : Int) < (b : Int)) = true := decide_eq_true u2
                have hc := IH.out mid en b d2 _ (by omega) Hz2.out hP5 hB5 c3.1 c3.2 hb
                have e := Hd3.out
                rw [if_pos c3] at e
                rw [← e] at hc
                clear e
                go_wp2_with (fail)
                all_goals refine hc.mono ?_
                all_goals clear hc
                all_goals rintro e w6 ⟨rfl, hP6, hB6⟩
                all_goals go_wp2
                all_goals refine bodyPost_end (results_none rfl _ _ _) rfl ⟨rfl, ?_, hB6⟩
                all_goals (rw [Hfin.out]; exact hP6)
              · have e := Hd3.out
                rw [if_neg c3] at e
                have hP6 := hP5
                rw [← e] at hP6
                clear e
                by_cases c3a : mid < en
                · have u1 : (mid : Int) < (en : Int) := by omega
                  have u2 : ¬ (en : Int) < (b : Int) := by omega
                  have u1d : decide ((mid : Int) < (en : Int)) = true := decide_eq_true u1
                  have u2d : decide ((en : Int) < (b : Int)) = false := decide_eq_false u2
                  go_wp2
                  all_goals refine bodyPost_end (results_none rfl _ _ _) rfl ⟨rfl, ?_, hB5⟩
                  all_goals (rw [Hfin.out]; exact hP6)
                · have u1 : ¬ (mid : Int) < (en : Int) := by omega
                  have u1d : decide ((mid : Int) < (en : Int)) = false := decide_eq_false u1
                  go_wp2
                  all_goals refine bodyPost_end (results_none rfl _ _ _) rfl ⟨rfl, ?_, hB5⟩
                  all_goals (rw [Hfin.out]; exact hP6)
            · have e := Hd2.out
              rw [if_neg c2] at e
              have hP5 := hP4
              rw [← e] at hP5
              have hB5 := hB4
              clear e
              by_cases c2a : a < p
              · have r1 : (a : Int) < (p : Int) := by omega
                have r2 : ¬ (p : Int) < (mid : Int) := by omega
                have r1d : decide ((a : Int) < (p : Int)) = true := decide_eq_true r1
                have r2d : decide ((p : Int) < (mid : Int)) = false := decide_eq_false r2
                by_cases c3 : mid < en ∧ en < b
                · have u1 : (mid : Int) < (en : Int) := by omega
                  have u2 : (en : Int) < (b : Int) := by omega
                  have u1d : decide ((mid : Int) < (en : Int)) = true := decide_eq_true u1
                  have u2d : decide ((en : Int) < (b : Int)) = true := decide_eq_true u2
                  have hc := IH.out mid en b d2 _ (by omega) Hz2.out hP5 hB5 c3.1 c3.2 hb
                  have e := Hd3.out
                  rw [if_pos c3] at e
                  rw [← e] at hc
                  clear e
                  go_wp2_with (fail)
                  all_goals refine hc.mono ?_
                  all_goals clear hc
                  all_goals rintro e w6 ⟨rfl, hP6, hB6⟩
                  all_goals go_wp2
                  all_goals refine bodyPost_end (results_none rfl _ _ _) rfl ⟨rfl, ?_, hB6⟩
                  all_goals (rw [Hfin.out]; exact hP6)
                · have e := Hd3.out
                  rw [if_neg c3] at e
                  have hP6 := hP5
                  rw [← e] at hP6
                  clear e
                  by_cases c3a : mid < en
                  · have u1 : (mid : Int) < (en : Int) := by omega
                    have u2 : ¬ (en : Int) < (b : Int) := by omega
                    have u1d : decide ((mid : Int) < (en : Int)) = true := decide_eq_true u1
                    have u2d : decide ((en : Int) < (b : Int)) = false := decide_eq_false u2
                    go_wp2
                    all_goals refine bodyPost_end (results_none rfl _ _ _) rfl ⟨rfl, ?_, hB5⟩
                    all_goals (rw [Hfin.out]; exact hP6)
                  · have u1 : ¬ (mid : Int) < (en : Int) := by omega
                    have u1d : decide ((mid : Int) < (en : Int)) = false := decide_eq_false u1
                    go_wp2
                    all_goals refine bodyPost_end (results_none rfl _ _ _) rfl ⟨rfl, ?_, hB5⟩
                    all_goals (rw [Hfin.out]; exact hP6)
              · have r1 : ¬ (a : Int) < (p : Int) := by omega
                have r1d : decide ((a : Int) < (p : Int)) = false := decide_eq_false r1
                by_cases c3 : mid < en ∧ en < b
                · have u1 : (mid : Int) < (en : Int) := by omega
                  have u2 : (en : Int) < (b : Int) := by omega
                  have u1d : decide ((mid : Int) < (en : Int)) = true := decide_eq_true u1
                  have u2d : decide ((en : Int) < (b : Int)) = true := decide_eq_true u2
                  have hc := IH.out mid en b d2 _ (by omega) Hz2.out hP5 hB5 c3.1 c3.2 hb
                  have e := Hd3.out
                  rw [if_pos c3] at e
                  rw [← e] at hc
                  clear e
                  go_wp2_with (fail)
                  all_goals refine hc.mono ?_
                  all_goals clear hc
                  all_goals rintro e w6 ⟨rfl, hP6, hB6⟩
                  all_goals go_wp2
                  all_goals refine bodyPost_end (results_none rfl _ _ _) rfl ⟨rfl, ?_, hB6⟩
                  all_goals (rw [Hfin.out]; exact hP6)
                · have e := Hd3.out
                  rw [if_neg c3] at e
                  have hP6 := hP5
                  rw [← e] at hP6
                  clear e
                  by_cases c3a : mid < en
                  · have u1 : (mid : Int) < (en : Int) := by omega
                    have u2 : ¬ (en : Int) < (b : Int) := by omega
                    have u1d : decide ((mid : Int) < (en : Int)) = true := decide_eq_true u1
                    have u2d : decide ((en : Int) < (b : Int)) = false := decide_eq_false u2
                    go_wp2
                    all_goals refine bodyPost_end (results_none rfl _ _ _) rfl ⟨rfl, ?_, hB5⟩
                    all_goals (rw [Hfin.out]; exact hP6)
                  · have u1 : ¬ (mid : Int) < (en : Int) := by omega
                    have u1d : decide ((mid : Int) < (en : Int)) = false := decide_eq_false u1
                    go_wp2
                    all_goals refine bodyPost_end (results_none rfl _ _ _) rfl ⟨rfl, ?_, hB5⟩
                    all_goals (rw [Hfin.out]; exact hP6)

end Go.Proofs.YtmeomhojbobpbaaGreatDoor
