import Derived.Test.YtmeomhojbobpbaaGreatDoorPart08
/-
  Walks: the exchange of two ranges; the rotation of two blocks.
-/
namespace Go.Proofs.YtmeomhojbobpbaaGreatDoor
open Go.RowKit Lg Go.Sort

set_option maxRecDepth 100000 in
set_option maxHeartbeats 3200000 in
theorem swapRange_any (n0 B cap a b m : Nat) (d : Array Nat) (v : Value) (w0 w : World) (hP : PlsD w B d) (hB : RowKit.Below n0 w0 w) (hB0 : n0 ≤ B) (ha : a + m ≤ b) (hb : b + m ≤ d.size) (hn : d.size ≤ 1000000) :
    Calls Tryz.prog 236 #[.slice (some ⟨B, 0, none⟩) d.size cap, .int .i64 a, .int .i64 b, .int .i64 m, v] w fun e w' => e = .returned (.tuple #[]) ∧ PlsD w' B (swapRange d a b m) ∧ RowKit.Below n0 w0 w' := by
  obtain ⟨n, hnn⟩ : ∃ n, n = d.size := ⟨_, rfl⟩
  rw [← hnn] at hb hn ⊢
  have HN := Lib.hid hnn
  clear hnn
  go_enter Tryz.func236, Tryz.ntmps236
  go_wp2
  go_loopw [10] (fun i wr => ∃ k : Nat, k ≤ m ∧ i = .int .i64 k ∧ PlsD wr B (swapRange d a b k) ∧ RowKit.Below n0 w0 wr) (fun i _ => m - (intOf i).toNat)
  case atStart => exact ⟨0, Nat.zero_le _, rfl, hP, hB⟩
  case round =>
    obtain ⟨k, hk, rfl, hPk, hBk⟩ := hrel
    by_cases hlt : k < m
    · have hltz : (k : Int) < (m : Int) := by omega
      have hsz : (swapRange d a b k).size = n := by rw [swapRange_size, HN.out]
      obtain ⟨dk, hdk⟩ : ∃ dk, dk = swapRange d a b k := ⟨_, rfl⟩
      rw [← hdk] at hPk hsz
      have Hsz := Lib.hid hsz; clear hsz
      have Hdk := Lib.hid hdk; clear hdk
      obtain ⟨p, hp⟩ : ∃ p, p = a + k := ⟨_, rfl⟩
      obtain ⟨q, hq⟩ : ∃ q, q = b + k := ⟨_, rfl⟩
      have hwp : IntKind.i64.wrap ((a : Int) + (k : Int)) = (a : Int) + (k : Int) := by rw [IntKind.wrap_i64]; omega
      have hwq : IntKind.i64.wrap ((b : Int) + (k : Int)) = (b : Int) + (k : Int) := by rw [IntKind.wrap_i64]; omega
      have ep : ((a : Int) + (k : Int)).toNat = p := by omega
      have eq : ((b : Int) + (k : Int)).toNat = q := by omega
      have p0 : (0 : Int) ≤ (a : Int) + (k : Int) := by omega
      have q0 : (0 : Int) ≤ (b : Int) + (k : Int) := by omega
      have p1 : (a : Int) + (k : Int) < (n : Int) := by omega
      have q1 : (b : Int) + (k : Int) < (n : Int) := by omega
      have hpn : p < n := by omega
      have hqn : q < n := by omega
      have hpq : ¬ p = q := by omega
      have hqp : ¬ q = p := by omega
      have Hp := Lib.hid hp; clear hp
      have Hq := Lib.hid hq; clear hq
      have hg1 := hPk.get p (by rw [Hsz.out]; exact hpn)
      have hg2 := hPk.get q (by rw [Hsz.out]; exact hqn)
      obtain ⟨x, hx⟩ : ∃ x, x = dk[p]! := ⟨_, rfl⟩
      obtain ⟨y, hy⟩ : ∃ y, y = dk[q]! := ⟨_, rfl⟩
      rw [← hx] at hg1
      rw [← hy] at hg2
      have cp := hg1.2
      have cq := hg2.2
      clear hg1 hg2
      have Hx := Lib.hid hx; clear hx
      have Hy := Lib.hid hy; clear hy
      have fp := hPk.frozen p
      have fq := hPk.frozen q
      have HPk := Lib.hid hPk; clear hPk
      go_wp2_with (fail)
      go_big_region
      clear cp cq fp fq hwp hwq ep eq p0 q0 p1 q1
      all_goals go_wp2
      go_roundw
      case rel =>
        refine ⟨k + 1, by omega, by go_num, ?_, ?_⟩
        · have h := HPk.out.swap p q (by rw [Hsz.out]; exact hpn) (by rw [Hsz.out]; exact hqn)
          rw [← Hx.out, ← Hy.out] at h
          rw [swapRange, ← Hdk.out, ← Hp.out, ← Hq.out]
          exact h
        · exact ((hBk.setCell (p := ⟨B, p, none⟩) hB0 _).setCell (p := ⟨B, q, none⟩) hB0 _).drew
      case measure => simp [intOf]; omega
    · obtain rfl : k = m := by omega
      go_wp2
      go_end0
      exact ⟨rfl, hPk, hBk⟩

set_option maxRecDepth 100000 in
set_option maxHeartbeats 3200000 in
theorem rotate_any (n0 B cap a m b : Nat) (d : Array Nat) (v : Value) (w0 w : World) (hP : PlsD w B d) (hB : RowKit.Below n0 w0 w) (hB0 : n0 ≤ B) (ha : a < m) (hm : m < b) (hb : b ≤ d.size) (hn : d.size ≤ 1000000) :
    Calls Tryz.prog 219 #[.slice (some ⟨B, 0, none⟩) d.size cap, .int .i64 a, .int .i64 m, .int .i64 b, v] w fun e w' => e = .returned (.tuple #[]) ∧ PlsD w' B (rotate d a m b) ∧ RowKit.Below n0 w0 w' := by
  obtain ⟨n, hnn⟩ : ∃ n, n = d.size := ⟨_, rfl⟩
  rw [← hnn] at hb hn ⊢
  have HN := Lib.hid hnn
  clear hnn
  have hwi : IntKind.i64.wrap ((m : Int) - (a : Int)) = (m : Int) - (a : Int) := by rw [IntKind.wrap_i64]; omega
  have hwj : IntKind.i64.wrap ((b : Int) - (m : Int)) = (b : Int) - (m : Int) := by rw [IntKind.wrap_i64]; omega
  go_enter Tryz.func219, Tryz.ntmps219
  go_wp2
  clear hwi hwj
  go_loopw [10, 11] (fun i j wr => ∃ (p q : Nat) (dk : Array Nat), 0 < p ∧ p ≤ m ∧ 0 < q ∧ m + q ≤ n ∧ i = .int .i64 p ∧ j = .int .i64 q ∧ Hid (dk.size = n) ∧ PlsD wr B dk ∧ RowKit.Below n0 w0 wr ∧ Hid (rotL m p q dk = rotate d a m b)) (fun i j _ => (intOf i).toNat + (intOf j).toNat)
  case atStart => exact ⟨m - a, b - m, d, by omega, by omega, by omega, by omega, by go_num, by go_num, HN.out.symm, hP, hB, rfl⟩
  case round =>
    obtain ⟨p, q, dk, hp0, hpm, hq0, hqn, rfl, rfl, Hs, hPk, hBk, HR⟩ := hrel
    have hw1 : IntKind.i64.wrap ((m : Int) - (p : Int)) = (m : Int) - (p : Int) := by rw [IntKind.wrap_i64]; omega
    have hmp : (m : Int) - (p : Int) = ((m - p : Nat) : Int) := by omega
    have hs := Hs.out
    have hR := HR.out
    rw [rotL.eq_def] at hR
    by_cases he : p = q
    · subst he
      rw [if_pos rfl] at hR
      have HR2 := Lib.hid hR; clear hR
      have hc := swapRange_any n0 B cap (m - p) m p dk v w0 wr hPk hBk hB0 (by omega) (by omega) (by omega)
      rw [hs, ← hmp] at hc
      clear hs hmp
      have hne : ((p : Int) != (p : Int)) = false := by simp
      go_wp2_with (fail)
      refine hc.mono ?_
      clear hc
      rintro e w2 ⟨rfl, hP2, hB2⟩
      go_wp2
      go_end0
      rw [HR2.out] at hP2
      exact ⟨rfl, hP2, hB2⟩
    · rw [if_neg he] at hR
      have hne : ((p : Int) != (q : Int)) = true := by simp; omega
      have hne2 : ¬ (p : Int) = (q : Int) := by omega
      by_cases hlt : q < p
      · rw [if_pos hlt, dif_pos hq0] at hR
        have HR2 := Lib.hid hR; clear hR
        have hw2 : IntKind.i64.wrap ((p : Int) - (q : Int)) = (p : Int) - (q : Int) := by rw [IntKind.wrap_i64]; omega
        have hltz : (q : Int) < (p : Int) := by omega
        have hc := swapRange_any n0 B cap (m - p) m q dk v w0 wr hPk hBk hB0 (by omega) (by omega) (by omega)
        rw [hs, ← hmp] at hc
        clear hs hmp
        go_wp2_with (fail)
        refine hc.mono ?_
        clear hc
        rintro e w2 ⟨rfl, hP2, hB2⟩
        go_wp2
        go_roundw
        case rel =>
          exact ⟨p - q, q, swapRange dk (m - p) m q, by omega, by omega, hq0, hqn, by go_num, rfl, (by rw [swapRange_size]; exact Hs.out : Hid _), hP2, hB2, HR2⟩
        case measure => simp [intOf]; omega
      · rw [if_neg hlt, dif_pos hp0] at hR
        have HR2 := Lib.hid hR; clear hR
        have hw2 : IntKind.i64.wrap ((q : Int) - (p : Int)) = (q : Int) - (p : Int) := by rw [IntKind.wrap_i64]; omega
        have hw3 : IntKind.i64.wrap ((m : Int) + (q : Int)) = (m : Int) + (q : Int) := by rw [IntKind.wrap_i64]; omega
        have hw4 : IntKind.i64.wrap ((m : Int) + (q : Int) - (p : Int)) = (m : Int) + (q : Int) - (p : Int) := by rw [IntKind.wrap_i64]; omega
        have hltz : ¬ (q : Int) < (p : Int) := by omega
        have hc := swapRange_any n0 B cap (m - p) (m + q - p) p dk v w0 wr hPk hBk hB0 (by omega) (by omega) (by omega)
        have hmq : (m : Int) + (q : Int) - (p : Int) = ((m + q - p : Nat) : Int) := by omega
        rw [hs, ← hmp, ← hmq] at hc
        clear hs hmp hmq
        go_wp2_with (fail)
        refine hc.mono ?_
        clear hc
        rintro e w2 ⟨rfl, hP2, hB2⟩
        go_wp2
        go_roundw
        case rel =>
          exact ⟨p, q - p, swapRange dk (m - p) (m + q - p) p, hp0, hpm, by omega, by omega, rfl, by go_num, (by rw [swapRange_size]; exact Hs.out : Hid _), hP2, hB2, HR2⟩
        case measure => simp [intOf]; omega

end Go.Proofs.YtmeomhojbobpbaaGreatDoor

/-
  Walk: the merge of two sorted ranges in place (symMerge).
-/
namespace Go.Proofs.YtmeomhojbobpbaaGreatDoor
open Go.RowKit Lg Go.Sort

theorem bsc_go (p : Nat → Bool) (i j : Nat) (h : i < j) : bsc p i j = if p ((i + j) / 2) then bsc p ((i + j) / 2 + 1) j else bsc p i ((i + j) / 2) := by
  rw [bsc.eq_def, if_pos h]
theorem bsc_end (p : Nat → Bool) (i : Nat) : bsc p i i = i := by
  rw [bsc.eq_def, if_neg (by omega)]

set_option maxRecDepth 100000 in
set_option maxHeartbeats 3200000 in
theorem sym1_any (g : Nat) (cb : Array Value) (n0 B cap a m b : Nat) (cf : Nat → Nat → Int) (d : Array Nat) (w0 w : World) (eg : ∀ args w, (callFunc g args).run Tryz.prog w = .ok (.enter g args) w) (hcmp : CmpIs g cb n0 d.size cf w0)
    (hP : PlsD w B d) (hB : RowKit.Below n0 w0 w) (hB0 : n0 ≤ B) (h0 : n0 ≤ w0.heap.size) (h1 : m - a = 1) (hmb : m < b) (hb : b ≤ d.size) (hn : d.size ≤ 1000000) :
    Calls Tryz.prog 199 #[.slice (some ⟨B, 0, none⟩) d.size cap, .int .i64 a, .int .i64 m, .int .i64 b, .func (.func g) #[] cb] w fun e w' => e = .returned (.tuple #[]) ∧ PlsD w' B (shUp d a (bsc (fun h => ltC cf d[h]! d[a]!) m b - 1 - a)) ∧ RowKit.Below n0 w0 w' := by
  have HC := Lib.hid hcmp
  clear hcmp
  obtain ⟨n, hnn⟩ : ∃ n, n = d.size := ⟨_, rfl⟩
  rw [← hnn] at hb hn ⊢
  have HN := Lib.hid hnn
  clear hnn
  obtain ⟨pr, hpr⟩ : ∃ pr : Nat → Bool, pr = fun h => ltC cf d[h]! d[a]! := ⟨_, rfl⟩
  rw [← hpr]
  have Hpr := Lib.hid hpr; clear hpr
  have hwm : IntKind.i64.wrap ((m : Int) - (a : Int)) = (m : Int) - (a : Int) := by rw [IntKind.wrap_i64]; omega
  have ht1 : ((m : Int) - (a : Int) == 1) = true := by simp; omega
  have ham : a < m := by omega
  have H1 := Lib.hid h1; clear h1
  go_enter Tryz.func199, Tryz.ntmps199
  go_wp2
  clear hwm ht1
  go_loopw [10, 11] (fun i j wr => ∃ p q : Nat, m ≤ p ∧ p ≤ q ∧ q ≤ b ∧ i = .int .i64 p ∧ j = .int .i64 q ∧ PlsD wr B d ∧ RowKit.Below n0 w0 wr ∧ Hid (bsc pr p q = bsc pr m b)) (fun i j _ => (intOf j).toNat - (intOf i).toNat)
  case atStart => exact ⟨m, b, Nat.le_refl _, by omega, Nat.le_refl _, rfl, rfl, hP, hB, rfl⟩
  case round =>
    obtain ⟨p, q, hp1, hp2, hp3, rfl, rfl, hPr, hBr, HR⟩ := hrel
    by_cases hlt : p < q
    · have hltz : (p : Int) < (q : Int) := by omega
      obtain ⟨h, hh⟩ : ∃ h, h = (p + q) / 2 := ⟨_, rfl⟩
      have hR := HR.out
      rw [bsc_go pr p q hlt, ← hh] at hR
      have hz : ((p : Int) + (q : Int)) / 2 = (h : Int) := by omega
      have hhn : h < n := by omega
      have han : a < n := by omega
      have hhz : (h : Int) < (n : Int) := by omega
      have haz : (a : Int) < (n : Int) := by omega
      have hb1 : p ≤ h := by omega
      have hb2 : h < q := by omega
      have hwh : IntKind.i64.wrap ((h : Int) + 1) = (h : Int) + 1 := by rw [IntKind.wrap_i64]; omega
      have Hh := Lib.hid hh; clear hh
      have HR2 := Lib.hid hR; clear hR
      have hg1 := hPr.get h (by rw [← HN.out]; exact hhn)
      have hg2 := hPr.get a (by rw [← HN.out]; exact han)
      obtain ⟨x, hx⟩ : ∃ x, x = d[h]! := ⟨_, rfl⟩
      obtain ⟨y, hy⟩ : ∃ y, y = d[a]! := ⟨_, rfl⟩
      rw [← hx] at hg1
      rw [← hy] at hg2
      obtain ⟨hxn, cj⟩ := hg1
      obtain ⟨hyn, cp⟩ := hg2
      have hpv : pr h = decide (cf x y < 0) := by rw [Hpr.out, hx, hy]; rfl
      have Hpv := Lib.hid hpv; clear hpv
      clear hx hy
      have hc := HC.out x y hxn hyn
      clear hxn hyn
      obtain ⟨v, hv⟩ : ∃ v, v = cf x y := ⟨_, rfl⟩
      rw [← hv] at hc Hpv
      clear hv
      have hB1 := hBr.drew
      have hPd := hPr.drew
      go_wp2_with (fail)
      go_still_tail 9, (by kernel_rfl)
      change wpList _ _ _ _ _ wr.drew
      clear cj cp
      generalize wr.drew = wd at *
      go_wp2_with (fail)
      refine (hc _ hB1).mono ?_
      clear hc
      rintro e w3 ⟨rfl, hB3⟩
      have hP3 := hPd.below hB3
      have hb3 : RowKit.Below n0 w0 w3 := hB1.trans (hB3.mono (by have := hB1.size; omega))
      clear hPd hPr hB1
      by_cases hv : v < 0
      · have e := HR2.out
        rw [Hpv.out, decide_eq_true hv, if_pos rfl] at e
        have HR3 := Lib.hid e; clear e
        go_wp2
        go_roundw
        case rel => exact ⟨h + 1, q, by omega, by omega, hp3, by go_num, rfl, hP3, hb3, HR3⟩
        case measure => simp [intOf]; omega
      · have e := HR2.out
        rw [Hpv.out, decide_eq_false hv, if_neg (by simp)] at e
        have HR3 := Lib.hid e; clear e
        go_wp2
        go_roundw
        case rel => exact ⟨p, h, by omega, by omega, by omega, rfl, by first | rfl | go_num, hP3, hb3, HR3⟩
        case measure => simp [intOf]; omega
    · obtain rfl : p = q := by omega
      have hs := HR.out
      rw [bsc_end] at hs
      have Hs := Lib.hid hs
      clear hs HR hlt
      have hp0 : a + 1 ≤ p := by omega
      go_wp2
      go_loopw [13] (fun i wr => ∃ k : Nat, a ≤ k ∧ k ≤ p - 1 ∧ i = .int .i64 k ∧ PlsD wr B (shUp d a (k - a)) ∧ RowKit.Below n0 w0 wr) (fun i _ => p - (intOf i).toNat)
      case atStart => exact ⟨a, Nat.le_refl _, by omega, rfl, by rw [Nat.sub_self]; exact hPr, hBr⟩
      case round =>
        obtain ⟨k, hk1, hk2, rfl, hPk, hBk⟩ := hrel
        have hwp : IntKind.i64.wrap ((p : Int) - 1) = (p : Int) - 1 := by rw [IntKind.wrap_i64]; omega
        by_cases hlt : k < p - 1
        · have hltz : (k : Int) < (p : Int) - 1 := by omega
          have hwk : IntKind.i64.wrap ((k : Int) + 1) = (k : Int) + 1 := by rw [IntKind.wrap_i64]; omega
          obtain ⟨k1, hk⟩ : ∃ k1, k1 = k + 1 := ⟨_, rfl⟩
          have e1 : ((k : Int) + 1).toNat = k1 := by omega
          have p0 : (0 : Int) ≤ (k : Int) + 1 := by omega
          have p1 : (k : Int) + 1 < (n : Int) := by omega
          have p2 : (k : Int) < (n : Int) := by omega
          have hkn : k < n := by omega
          have hk1n : k1 < n := by omega
          have hne : ¬ k = k1 := by omega
          have hne2 : ¬ k1 = k := by omega
          have Hk := Lib.hid hk; clear hk
          obtain ⟨dk, hdk⟩ : ∃ dk, dk = shUp d a (k - a) := ⟨_, rfl⟩
          have hsz : dk.size = n := by rw [hdk, shUp_size, HN.out]
          rw [← hdk] at hPk
          have Hsz := Lib.hid hsz; clear hsz
          have Hdk := Lib.hid hdk; clear hdk
          have hg1 := hPk.get k (by rw [Hsz.out]; exact hkn)
          have hg2 := hPk.get k1 (by rw [Hsz.out]; exact hk1n)
          obtain ⟨x, hx⟩ : ∃ x, x = dk[k]! := ⟨_, rfl⟩
          obtain ⟨y, hy⟩ : ∃ y, y = dk[k1]! := ⟨_, rfl⟩
          rw [← hx] at hg1
          rw [← hy] at hg2
          have cp := hg1.2
          have cq := hg2.2
          clear hg1 hg2
          have Hx := Lib.hid hx; clear hx
          have Hy := Lib.hid hy; clear hy
          have fp := hPk.frozen k
          have fq := hPk.frozen k1
          have HPk := Lib.hid hPk; clear hPk
          go_wp2_with (fail)
          go_big_region
          clear cp cq fp fq e1 p0 p1 p2
          all_goals go_wp2
          go_roundw
          case rel =>
            refine ⟨k + 1, by omega, by omega, by go_num, ?_, ?_⟩
            · have h := HPk.out.swap k k1 (by rw [Hsz.out]; exact hkn) (by rw [Hsz.out]; exact hk1n)
              rw [← Hx.out, ← Hy.out] at h
              have e : shUp d a (k + 1 - a) = swp dk k k1 := by
                rw [show k + 1 - a = (k - a) + 1 from by omega, shUp, ← Hdk.out, Hk.out, show a + (k - a) = k from by omega]
              rw [e]
              exact h
            · exact ((hBk.setCell (p := ⟨B, k, none⟩) hB0 _).setCell (p := ⟨B, k1, none⟩) hB0 _).drew
          case measure => simp [intOf]; omega
        · have hltz : ¬ (k : Int) < (p : Int) - 1 := by omega
          have e : k = p - 1 := by omega
          have He := Lib.hid e
          clear e
          go_wp2
          rw [He.out, Hs.out] at hPk
          refine bodyPost_ret (results_none rfl _ _ _) rfl ⟨rfl, hPk, hBk⟩

set_option maxRecDepth 100000 in
set_option maxHeartbeats 3200000 in
theorem sym2_any (g : Nat) (cb : Array Value) (n0 B cap a m b : Nat) (cf : Nat → Nat → Int) (d : Array Nat) (w0 w : World) (eg : ∀ args w, (callFunc g args).run Tryz.prog w = .ok (.enter g args) w) (hcmp : CmpIs g cb n0 d.size cf w0)
    (hP : PlsD w B d) (hB : RowKit.Below n0 w0 w) (hB0 : n0 ≤ B) (h0 : n0 ≤ w0.heap.size) (ham : a < m) (h1 : ¬ m - a = 1) (h2 : b - m = 1) (hb : b ≤ d.size) (hn : d.size ≤ 1000000) :
    Calls Tryz.prog 199 #[.slice (some ⟨B, 0, none⟩) d.size cap, .int .i64 a, .int .i64 m, .int .i64 b, .func (.func g) #[] cb] w fun e w' => e = .returned (.tuple #[]) ∧ PlsD w' B (shDn d m (m - bsc (fun h => !ltC cf d[m]! d[h]!) a m)) ∧ RowKit.Below n0 w0 w' := by
  have HC := Lib.hid hcmp
  clear hcmp
  obtain ⟨n, hnn⟩ : ∃ n, n = d.size := ⟨_, rfl⟩
  rw [← hnn] at hb hn ⊢
  have HN := Lib.hid hnn
  clear hnn
  obtain ⟨pr, hpr⟩ : ∃ pr : Nat → Bool, pr = fun h => !ltC cf d[m]! d[h]! := ⟨_, rfl⟩
  rw [← hpr]
  have Hpr := Lib.hid hpr; clear hpr
  have hwm : IntKind.i64.wrap ((m : Int) - (a : Int)) = (m : Int) - (a : Int) := by rw [IntKind.wrap_i64]; omega
  have hwb : IntKind.i64.wrap ((b : Int) - (m : Int)) = (b : Int) - (m : Int) := by rw [IntKind.wrap_i64]; omega
  have ht1 : ((m : Int) - (a : Int) == 1) = false := by simp; omega
  have ht2 : ((b : Int) - (m : Int) == 1) = true := by simp; omega
  have hmn : m < n := by omega
  have H1 := Lib.hid h1; clear h1
  have H2 := Lib.hid h2; clear h2
  go_enter Tryz.func199, Tryz.ntmps199
  go_wp2
  clear hwm ht1 hwb ht2
  go_loopw [14, 15] (fun i j wr => ∃ p q : Nat, a ≤ p ∧ p ≤ q ∧ q ≤ m ∧ i = .int .i64 p ∧ j = .int .i64 q ∧ PlsD wr B d ∧ RowKit.Below n0 w0 wr ∧ Hid (bsc pr p q = bsc pr a m)) (fun i j _ => (intOf j).toNat - (intOf i).toNat)
  case atStart => exact ⟨a, m, Nat.le_refl _, by omega, Nat.le_refl _, rfl, rfl, hP, hB, rfl⟩
  case round =>
    obtain ⟨p, q, hp1, hp2, hp3, rfl, rfl, hPr, hBr, HR⟩ := hrel
    by_cases hlt : p < q
    · have hltz : (p : Int) < (q : Int) := by omega
      obtain ⟨h, hh⟩ : ∃ h, h = (p + q) / 2 := ⟨_, rfl⟩
      have hR := HR.out
      rw [bsc_go pr p q hlt, ← hh] at hR
      have hz : ((p : Int) + (q : Int)) / 2 = (h : Int) := by omega
      have hhn : h < n := by omega
      have hhz : (h : Int) < (n : Int) := by omega
      have hmz : (m : Int) < (n : Int) := by omega
      have hb1 : p ≤ h := by omega
      have hb2 : h < q := by omega
      have hwh : IntKind.i64.wrap ((h : Int) + 1) = (h : Int) + 1 := by rw [IntKind.wrap_i64]; omega
      have Hh := Lib.hid hh; clear hh
      have HR2 := Lib.hid hR; clear hR
      have hg1 := hPr.get m (by rw [← HN.out]; exact hmn)
      have hg2 := hPr.get h (by rw [← HN.out]; exact hhn)
      obtain ⟨x, hx⟩ : ∃ x, x = d[m]! := ⟨_, rfl⟩
      obtain ⟨y, hy⟩ : ∃ y, y = d[h]! := ⟨_, rfl⟩
      rw [← hx] at hg1
      rw [← hy] at hg2
      obtain ⟨hxn, cj⟩ := hg1
      obtain ⟨hyn, cp⟩ := hg2
      have hpv : pr h = !decide (cf x y < 0) := by rw [Hpr.out, hx, hy]; rfl
      have Hpv := Lib.hid hpv; clear hpv
      clear hx hy
      have hc := HC.out x y hxn hyn
      clear hxn hyn
      obtain ⟨v, hv⟩ : ∃ v, v = cf x y := ⟨_, rfl⟩
      rw [← hv] at hc Hpv
      clear hv
      have hB1 := hBr.drew
      have hPd := hPr.drew
      go_wp2_with (fail)
      go_still_tail 9, (by kernel_rfl)
      change wpList _ _ _ _ _ wr.drew
      clear cj cp
      generalize wr.drew = wd at *
      go_wp2_with (fail)
      refine (hc _ hB1).mono ?_
      clear hc
      rintro e w3 ⟨rfl, hB3⟩
      have hP3 := hPd.below hB3
      have hb3 : RowKit.Below n0 w0 w3 := hB1.trans (hB3.mono (by have := hB1.size; omega))
      clear hPd hPr hB1
      by_cases hv : v < 0
      · have e := HR2.out
        rw [Hpv.out, decide_eq_true hv, if_neg (by simp)] at e
        have HR3 := Lib.hid e; clear e
        have hvd : decide (v < 0) = true := decide_eq_true hv
        go_wp2
        go_roundw
        case rel => exact ⟨p, h, by omega, by omega, by omega, rfl, by first | rfl | go_num, hP3, hb3, HR3⟩
        case measure => simp [intOf]; omega
      · have e := HR2.out
        rw [Hpv.out, decide_eq_false hv, if_pos (by simp : (!false) = true)] at e
        have HR3 := Lib.hid e; clear e
        have hvd : decide (v < 0) = false := decide_eq_false hv
        go_wp2
        go_roundw
        case rel => exact ⟨h + 1, q, by omega, by omega, hp3, by go_num, rfl, hP3, hb3, HR3⟩
        case measure => simp [intOf]; omega
    · obtain rfl : p = q := by omega
      have hs := HR.out
      rw [bsc_end] at hs
      have Hs := Lib.hid hs
      clear hs HR hlt
      go_wp2
      go_loopw [17] (fun i wr => ∃ k : Nat, p ≤ k ∧ k ≤ m ∧ i = .int .i64 k ∧ PlsD wr B (shDn d m (m - k)) ∧ RowKit.Below n0 w0 wr) (fun i _ => (intOf i).toNat)
      case atStart => exact ⟨m, by omega, Nat.le_refl _, rfl, by rw [Nat.sub_self]; exact hPr, hBr⟩
      case round =>
        obtain ⟨k, hk1, hk2, rfl, hPk, hBk⟩ := hrel
        by_cases hlt : p < k
        · have hltz : (p : Int) < (k : Int) := by omega
          have hwk : IntKind.i64.wrap ((k : Int) - 1) = (k : Int) - 1 := by rw [IntKind.wrap_i64]; omega
          obtain ⟨k1, hk⟩ : ∃ k1, k1 = k - 1 := ⟨_, rfl⟩
          have e1 : ((k : Int) - 1).toNat = k1 := by omega
          have p0 : (0 : Int) ≤ (k : Int) - 1 := by omega
          have p00 : (1 : Int) ≤ (k : Int) := by omega
          have p1 : (k : Int) - 1 < (n : Int) := by omega
          have p2 : (k : Int) < (n : Int) := by omega
          have hkn : k < n := by omega
          have hk1n : k1 < n := by omega
          have hne : ¬ k = k1 := by omega
          have hne2 : ¬ k1 = k := by omega
          have Hk := Lib.hid hk; clear hk
          obtain ⟨dk, hdk⟩ : ∃ dk, dk = shDn d m (m - k) := ⟨_, rfl⟩
          have hsz : dk.size = n := by rw [hdk, shDn_size, HN.out]
          rw [← hdk] at hPk
          have Hsz := Lib.hid hsz; clear hsz
          have Hdk := Lib.hid hdk; clear hdk
          have hg1 := hPk.get k (by rw [Hsz.out]; exact hkn)
          have hg2 := hPk.get k1 (by rw [Hsz.out]; exact hk1n)
          obtain ⟨x, hx⟩ : ∃ x, x = dk[k]! := ⟨_, rfl⟩
          obtain ⟨y, hy⟩ : ∃ y, y = dk[k1]! := ⟨_, rfl⟩
          rw [← hx] at hg1
          rw [← hy] at hg2
          have cp := hg1.2
          have cq := hg2.2
          clear hg1 hg2
          have Hx := Lib.hid hx; clear hx
          have Hy := Lib.hid hy; clear hy
          have fp := hPk.frozen k
          have fq := hPk.frozen k1
          have HPk := Lib.hid hPk; clear hPk
          go_wp2_with (fail)
          go_big_region
          clear cp cq fp fq e1 p0 p1 p2
          all_goals go_wp2
          go_roundw
          case rel =>
            refine ⟨k - 1, by omega, by omega, by first | go_num | (congr 1; omega), ?_, ?_⟩
            · have h := HPk.out.swap k k1 (by rw [Hsz.out]; exact hkn) (by rw [Hsz.out]; exact hk1n)
              rw [← Hx.out, ← Hy.out] at h
              have e : shDn d m (m - (k - 1)) = swp dk k k1 := by
                rw [show m - (k - 1) = (m - k) + 1 from by omega, shDn, ← Hdk.out, Hk.out, show m - (m - k) = k from by omega]
              rw [e]
              exact h
            · exact ((hBk.setCell (p := ⟨B, k, none⟩) hB0 _).setCell (p := ⟨B, k1, none⟩) hB0 _).drew
          case measure => simp [intOf]; omega
        · obtain rfl : k = p := by omega
          go_wp2
          rw [Hs.out] at hPk
          refine bodyPost_ret (results_none rfl _ _ _) rfl ⟨rfl, hPk, hBk⟩

end Go.Proofs.YtmeomhojbobpbaaGreatDoor
