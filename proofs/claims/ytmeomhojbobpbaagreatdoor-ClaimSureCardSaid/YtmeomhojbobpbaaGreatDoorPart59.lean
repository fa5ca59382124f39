import Derived.Test.YtmeomhojbobpbaaGreatDoorPart42
import Derived.Test.YtmeomhojbobpbaaGreatDoorPart58
import Derived.Test.YtmeomhojbobpbaaGreatDoorPart40
/-
  Walk: the law ClaimSure.
-/
namespace Go.Proofs.YtmeomhojbobpbaaGreatDoor
open Go.RowKit Lg Go.Sort Go.Shelf Go.Maps

/-- Whether the shares of a list add up to at most 1. -/
def oneT (t : List Title) : Bool := decide ((sumOf (t.map Title.share)).2 = 0) && decide (cmpF (sumOf (t.map Title.share)).1 ⟨1, 1⟩ ≤ 0)
def wholeT (n : Nat) (l : List (List Title)) : Bool := decide (n = 0) || l.any oneT

theorem chosen_err (xss : List (List Title)) : (commonOf xss).2 = endsE xss ∧ (greatestOf xss).2 = endsE xss := by
  unfold commonOf greatestOf chosenD
  by_cases h : endsE xss = 0
  · rw [if_pos h, if_pos h, h]; exact ⟨rfl, rfl⟩
  · rw [if_neg h, if_neg h]; exact ⟨rfl, rfl⟩
theorem chosen_none {xss : List (List Title)} (h : endsE xss ≠ 0) : (commonOf xss).1 = [] ∧ (greatestOf xss).1 = [] := by
  unfold commonOf greatestOf chosenD
  rw [if_neg h, if_neg h]; exact ⟨rfl, rfl⟩

theorem share_cmp {xss : List (List Title)} (h : endsE xss = 0) {t : List Title} (ht : t ∈ xss) {p : Int} (h0 : 0 ≤ p) (h1 : p ≤ 40) :
    ¬ 0 < cmpF (shareAt (commonOf xss).1 p) (shareAt t p) ∧ ¬ cmpF (shareAt (greatestOf xss).1 p) (shareAt t p) < 0 := by
  have hv := (shareAt_ok (ends_ok h t ht) p).1
  obtain ⟨a1, a2⟩ := sure_le h ht h0 h1
  obtain ⟨b1, b2⟩ := sure_ge h ht h0 h1
  have h3 := (cmpF_le a1 hv).2 a2
  have h4 := (cmpF_le hv b1).2 b2
  have h5 := cmpF_anti (shareAt t p) (shareAt (greatestOf xss).1 p)
  constructor <;> omega

theorem whole_cmp {xss : List (List Title)} (h : endsE xss = 0) (hw : wholeT xss.length xss = true) (hs : (sumOf ((commonOf xss).1.map Title.share)).2 = 0) : cmpF (sumOf ((commonOf xss).1.map Title.share)).1 ⟨1, 1⟩ ≤ 0 := by
  obtain ⟨c1, c2⟩ := sumOf_Q hs
  rw [cmpF_le c1 valid1, valQ_one, c2, List.map_map]
  unfold wholeT at hw
  rw [Bool.or_eq_true] at hw
  rcases hw with hw | hw
  · have hx : xss = [] := List.eq_nil_of_length_eq_zero (by simpa using hw)
    subst hx
    rw [common_nil]
    decide
  · obtain ⟨t, ht, ho⟩ := List.any_eq_true.1 hw
    unfold oneT at ho
    rw [Bool.and_eq_true, decide_eq_true_eq, decide_eq_true_eq] at ho
    obtain ⟨d1, d2⟩ := sumOf_Q ho.1
    have h1 := (cmpF_le d1 valid1).1 ho.2
    rw [valQ_one, d2, List.map_map] at h1
    exact Rat.le_trans (sure_sum h ht) h1

set_option maxRecDepth 100000 in
set_option maxHeartbeats 12800000 in
theorem lawSure_any (a : Option Addr) (n cap : Nat) (xss : List (List Title)) (w : World) (hL : LstL w a n cap xss) (hV : Vs w) :
    Calls Tryz.prog 11 #[.slice a n cap] w (Gives w (.bool true)) := by
  have HV := Lib.hid hV
  have HL := Lib.hid (fun W (h : RowKit.Below w.heap.size w W) => hL.below h)
  have hlt := light_any a n cap xss w hL
  obtain ⟨hlen, hle, hmax⟩ := hL.facts
  have hm : cap ≤ 9223372036854775807 := by unfold maxLen at hmax; omega
  obtain ⟨lb, hlb⟩ : ∃ lb, lb = lightD xss := ⟨_, rfl⟩
  rw [← hlb] at hlt
  have Hlb := Lib.hid hlb
  have Hlen := Lib.hid hlen
  clear hL hV hlb hlen
  have hf : ∀ W, RowKit.Below w.heap.size w W → Calls Tryz.prog 14 #[] W (Gives W (.bool true)) := fun W h => alive_any W (HV.out.below h)
  have Hal := Lib.hid hf
  clear hf
  go_enter Tryz.func11, Tryz.ntmps11
  cases lb with
  | false =>
    go_wp2_with (fail)
    refine hlt.mono ?_
    clear hlt
    rintro e w0 ⟨rfl, hw0⟩
    have hal := Hal.out _ hw0
    go_wp2_with (fail)
    refine hal.mono ?_
    rintro e w2 ⟨rfl, hB2⟩
    go_wp2_with (fail)
    go_ret
    exact ⟨rfl, hw0.trans (hB2.mono hw0.size)⟩
  | true =>
  go_wp2_with (fail)
  refine hlt.mono ?_
  clear hlt
  rintro e w0 ⟨rfl, hw0⟩
  by_cases h12 : 12 < n
  · have hz : (12 : Int) < (n : Int) := by omega
    have hal := Hal.out _ hw0
    go_wp2_with (fail)
    refine hal.mono ?_
    rintro e w2 ⟨rfl, hB2⟩
    go_wp2_with (fail)
    go_ret
    exact ⟨rfl, hw0.trans (hB2.mono hw0.size)⟩
  have hz : ¬ (12 : Int) < (n : Int) := by omega
  have hlb2 := Hlb.out.symm
  unfold lightD at hlb2
  rw [Bool.and_eq_true, List.all_eq_true] at hlb2
  have h50 : ∀ xs ∈ xss, xs.length ≤ 50 := fun xs h => by simpa using hlb2.1 xs h
  have Hc := Lib.hid (fun W (h : RowKit.Below w.heap.size w W) => commonD_any a n cap xss W (HL.out W h) h50 (by omega))
  have Hg := Lib.hid (fun W (h : RowKit.Below w.heap.size w W) => greatestD_any a n cap xss W (HL.out W h) h50)
  have H50 := Lib.hid h50
  clear hlb2 h50 Hlb
  obtain ⟨f1, f2⟩ := chosen_err xss
  rw [f1] at Hc
  rw [f2] at Hg
  clear f1 f2
  go_wp2_with (fail)
  refine (Hc.out _ hw0).mono ?_
  rintro e w1 ⟨v1, rfl, ho1, hB1⟩
  obtain ⟨a1, p1, rfl, _, hL1⟩ := Lst.of_owns (k := 3) (enc := cT) (fun _ => rfl) (by omega) ho1 rfl
  have hb1 := hw0.trans (hB1.mono hw0.size)
  clear hw0 hB1 ho1 Hc
  go_wp2_with (fail)
  refine (Hg.out _ hb1).mono ?_
  rintro e w2 ⟨v2, rfl, ho2, hB2⟩
  obtain ⟨a2, p2, rfl, _, hL2⟩ := Lst.of_owns (k := 3) (enc := cT) (fun _ => rfl) (by omega) ho2 rfl
  have hL1 := hL1.below hB2
  have hb2 := hb1.trans (hB2.mono hb1.size)
  clear hb1 hB2 ho2 Hg
  by_cases he : endsE xss = 0
  rotate_left
  · obtain ⟨f1, f2⟩ := chosen_none he
    rw [f1] at hL1 ⊢
    rw [f2] at hL2 ⊢
    generalize endsE xss = er at *
    have g0 : (er != 0) = true := by simpa using he
    have hal := Hal.out _ hb2
    clear hL1 hL2 f1 f2 he
    go_wp2_with (fail)
    refine hal.mono ?_
    rintro e w3 ⟨rfl, hB3⟩
    go_wp2_with (fail)
    go_ret
    exact ⟨by first | rfl | simp, hb2.trans (hB3.mono hb2.size)⟩
  have hcmp := fun t ht p h0 h1 => share_cmp he (t := t) ht (p := p) h0 h1
  have hfin := whole_cmp he
  have hcl : (commonOf xss).1.length ≤ 41 := by
    unfold commonOf
    rw [chosen_eq he]
    have := List.length_filterMap_le (fun i => (chG xss (max 1 xss.length) minF i).map fun f => (⟨(i : Int), f⟩ : Title)) (List.range 41)
    rwa [List.length_range] at this
  rw [he]
  clear he
  generalize (commonOf xss).1 = cs at *
  generalize (greatestOf xss).1 = gs at *
  obtain ⟨ln, hln⟩ : ∃ ln, ln = cs.length := ⟨_, rfl⟩
  obtain ⟨lm, hlm⟩ : ∃ lm, lm = gs.length := ⟨_, rfl⟩
  rw [← hln] at hL1 hcl ⊢
  rw [← hlm] at hL2 ⊢
  clear hln hlm
  have HL1 := Lib.hid hL1
  have HL2 := Lib.hid hL2
  have Hcmp := Lib.hid hcmp
  have Hfin := Lib.hid hfin
  have HB2 := Lib.hid hb2
  clear hL1 hL2 hcmp hfin hb2
  obtain ⟨nz, hnz⟩ : ∃ nz, nz = decide (n = 0) := ⟨_, rfl⟩
  have hnz2 : ((n : Int) == 0) = nz := by
    rw [hnz]
    by_cases h : n = 0
    · subst h; rfl
    · rw [decide_eq_false h]; simp; omega
  have Hnz := Lib.hid hnz
  clear hnz
  go_wp2_with (fail)
  go_loopw [8, 62] (fun wh s wr => ∃ i : Nat, i ≤ n ∧ s = .int .i64 i ∧ (∃ wb, wh = .bool wb ∧ Hid (wb = (nz || (xss.take i).any oneT))) ∧ RowKit.Below w2.heap.size w2 wr) (fun _ s _ => n - (intOf s).toNat)
  case atStart => exact ⟨0, Nat.zero_le _, rfl, ⟨nz, rfl, Lib.hid (by simp)⟩, Below.refl _ _⟩
  case round =>
    obtain ⟨i, hi, rfl, ⟨wb, rfl, Hwb⟩, hB⟩ := hrel
    by_cases hlt : i < n
    · obtain ⟨t, hx⟩ : ∃ xs, xss[i]? = some xs := ⟨xss[i]'(by have := Hlen.out; omega), by simp⟩
      obtain ⟨b, off, rfl, hb, ai, m, c2, hci, hLi⟩ := (HL.out _ HB2.out).at_ i t hx
      have hcw := (hB.cell (p := ⟨b, off + i, none⟩) hb).trans hci
      have hlz : (i : Int) < (n : Int) := by omega
      have hmem := List.mem_of_getElem? hx
      have hm50 : m ≤ 50 := by have := H50.out t hmem; have := hLi.len; omega
      have hany : (xss.take (i + 1)).any oneT = ((xss.take i).any oneT || oneT t) := by
        obtain ⟨h1, h2⟩ := List.getElem?_eq_some_iff.1 hx
        rw [List.take_succ_eq_append_getElem h1, h2, List.any_append]; simp
      have Hany := Lib.hid hany
      have HLi := Lib.hid hLi
      have Hmem := Lib.hid hmem
      clear hx hci hLi hmem hany
      obtain ⟨wo, hwo⟩ : ∃ wo, wo = wr := ⟨_, rfl⟩
      subst hwo
      go_wp2_with (fail)
      clear hcw
      go_loopw [66] (fun s wr => ∃ p : Nat, p ≤ 41 ∧ s = .int .i64 p ∧ RowKit.Below w2.heap.size w2 wr) (fun s _ => 41 - (intOf s).toNat)
      case atStart => exact ⟨0, by omega, rfl, hB⟩
      case round =>
        clear hB
        obtain ⟨p, hp, rfl, hB⟩ := hrel
        by_cases hp41 : p < 41
        · have hpz : (p : Int) < 41 := by omega
          obtain ⟨q1, q2⟩ := Hcmp.out t Hmem.out (p : Int) (by omega) (by omega)
          have hsh := share_any ai m c2 t (p : Int) _ (HLi.out.below hB)
          obtain ⟨x, hx⟩ : ∃ x, x = shareAt t (p : Int) := ⟨_, rfl⟩
          obtain ⟨xa, hxa⟩ : ∃ x, x = shareAt cs (p : Int) := ⟨_, rfl⟩
          obtain ⟨xb, hxb⟩ : ∃ x, x = shareAt gs (p : Int) := ⟨_, rfl⟩
          rw [← hx] at hsh q1 q2
          rw [← hxa] at q1
          rw [← hxb] at q2
          have Hxa := Lib.hid hxa
          have Hxb := Lib.hid hxb
          clear hx hxa hxb
          go_wp2_with (fail)
          refine hsh.mono ?_
          clear hsh
          rintro e w3 ⟨rfl, hB3⟩
          obtain ⟨w4, hw4⟩ : ∃ w4, w4 = w3.alloc (.cells #[.int .i64 x.num, .int .i64 x.den] 25) := ⟨_, rfl⟩
          have kx : Blk w4 w3.heap.size #[.int .i64 x.num, .int .i64 x.den] 25 := hw4 ▸ Blk.new _ _ _
          have hb3 := hB.trans (hB3.mono hB.size)
          have hb4 : RowKit.Below w2.heap.size w2 w4 := hw4 ▸ hb3.alloc hb3.size _
          clear hB hB3 hb3
          go_upto_region 16 with fail
          rw [← hw4]
          clear hw4
          obtain ⟨b12, hb12⟩ : ∃ b, b = w3.heap.size := ⟨_, rfl⟩
          rw [← hb12] at kx ⊢
          clear hb12
          have hA := fun W (h : RowKit.Below w4.heap.size w4 W) => share_any a1 ln p1 cs (p : Int) W (HL1.out.below (hb4.trans (h.mono hb4.size)))
          have hBv := fun W (h : RowKit.Below w4.heap.size w4 W) => share_any a2 lm p2 gs (p : Int) W (HL2.out.below (hb4.trans (h.mono hb4.size)))
          rw [← Hxa.out] at hA
          rw [← Hxb.out] at hBv
          have hcA := fun W => compareD_any xa x W
          have hcB := fun W => compareD_any xb x W
          obtain ⟨ca, hca⟩ : ∃ c, c = cmpF xa x := ⟨_, rfl⟩
          obtain ⟨cb, hcb⟩ : ∃ c, c = cmpF xb x := ⟨_, rfl⟩
          rw [← hca] at hcA q1
          rw [← hcb] at hcB q2
          have d1 : decide ((0 : Int) < ca) = false := decide_eq_false (by omega)
          have d2 : decide (cb < 0) = false := decide_eq_false (by omega)
          have HF := Lib.hid (fun W' (h : RowKit.Below w4.heap.size w4 W') => kx.below' h)
          clear hca hcb kx
          go_cut [88] (fun c W' => c = .bool false ∧ RowKit.Below w4.heap.size w4 W')
          case first =>
            refine wp_region_T (fun W' => RowKit.Below w4.heap.size w4 W') (fun _ => True) 99 (by kernel_rfl) (Below.refl _ _).drew trivial (fun hS hT => ?_)
            refine wpAnyT_takeS (i := 0) (v := .func (.func 44) #[] #[]) rfl (by kernel_rfl) (by kernel_rfl) (by kernel_rfl) rfl (fun _ _ _ h => h) (Or.inl ⟨by kernel_rfl, fun _ _ => by kernel_rfl⟩) hS (fun _ => trivial) ?_
            try simp only [List.getElem_toArray, List.getElem_cons_zero]
            try dsimp only
            try simp only [Act.put, List.setIfInBounds_toArray, List.set_cons_zero, List.set_cons_succ]
            refine wpAnyT_takeS (i := 1) (v := .slice a1 ln p1) rfl (by kernel_rfl) (by kernel_rfl) (by kernel_rfl) rfl (fun _ _ _ h => h) (Or.inl ⟨by kernel_rfl, fun _ _ => by kernel_rfl⟩) hS (fun _ => trivial) ?_
            try simp only [List.getElem_toArray, List.getElem_cons_succ, List.getElem_cons_zero]
            try dsimp only
            try simp only [Act.put, List.setIfInBounds_toArray, List.set_cons_zero, List.set_cons_succ]
            refine wpAnyT_takeS (i := 2) (v := .int .i64 p) rfl (by kernel_rfl) (by kernel_rfl) (by kernel_rfl) rfl (fun _ _ _ h => h) (Or.inl ⟨by kernel_rfl, fun _ _ => by kernel_rfl⟩) hS (fun _ => trivial) ?_
            try simp only [List.getElem_toArray, List.getElem_cons_succ, List.getElem_cons_zero]
            try dsimp only
            try simp only [Act.put, List.setIfInBounds_toArray, List.set_cons_zero, List.set_cons_succ]
            refine wpAnyT_takeS (i := 4) (v := .agg (cF x).toArray) rfl (by kernel_rfl) (by kernel_rfl) (by kernel_rfl) rfl (fun _ _ _ h => h) (yields_load 25 (.tmp 12) rfl b12 (0) (by kernel_rfl) (cF x) _ (by kernel_rfl) (fun W hW => ((HF.out W hW).range 0 _ (fun j v h => by simpa using h))) Tryz.underlying25 rfl (by kernel_rfl)) hS (fun _ => trivial) ?_
            try simp only [List.getElem_toArray, List.getElem_cons_succ, List.getElem_cons_zero]
            try dsimp only
            try simp only [Act.put, List.setIfInBounds_toArray, List.set_cons_zero, List.set_cons_succ]
            refine wpAnyT_one (j := 3) rfl (by kernel_rfl) (by kernel_rfl) (fun K hK => ?_)
            go_simp
            refine (hA _ hS).mono ?_
            rintro e wqhSa ⟨rfl, hqhSa⟩
            have hSa := hS.trans (hqhSa.mono hS.size)
            refine hK.out _ _ hSa (fun _ => trivial) ?_
            try simp only [List.getElem_toArray, List.getElem_cons_succ, List.getElem_cons_zero]
            try dsimp only
            try simp only [Act.put, List.setIfInBounds_toArray, List.set_cons_zero, List.set_cons_succ]
            refine wpAnyT_one (j := 5) rfl (by kernel_rfl) (by kernel_rfl) (fun K hK => ?_)
            go_simp
            refine (hcA _).mono ?_
            rintro e wqhSb ⟨rfl, hqhSb⟩
            have hSb := hSa.trans (hqhSb.mono hSa.size)
            refine hK.out _ _ hSb (fun _ => trivial) ?_
            try simp only [List.getElem_toArray, List.getElem_cons_succ, List.getElem_cons_zero]
            try dsimp only
            try simp only [Act.put, List.setIfInBounds_toArray, List.set_cons_zero, List.set_cons_succ]
            refine wpAnyT_takeS (i := 6) (v := .bool false) rfl (by kernel_rfl) (by kernel_rfl) (by kernel_rfl) rfl (fun _ _ _ h => h) (Or.inl ⟨by kernel_rfl, fun W hW => by go_simp⟩) hSb (fun _ => trivial) ?_
            try simp only [List.getElem_toArray, List.getElem_cons_succ, List.getElem_cons_zero]
            try dsimp only
            try simp only [Act.put, List.setIfInBounds_toArray, List.set_cons_zero, List.set_cons_succ]
            refine wpAnyT_takeS (i := 7) (v := .bool false) rfl (by kernel_rfl) (by kernel_rfl) (by kernel_rfl) rfl (fun _ _ _ h => h) (Or.inl ⟨by kernel_rfl, fun _ _ => by kernel_rfl⟩) hSb (fun _ => trivial) ?_
            try simp only [List.getElem_toArray, List.getElem_cons_succ, List.getElem_cons_zero]
            try dsimp only
            try simp only [Act.put, List.setIfInBounds_toArray, List.set_cons_zero, List.set_cons_succ]
            refine wpAnyT_takeS (i := 8) (v := .func (.func 44) #[] #[]) rfl (by kernel_rfl) (by kernel_rfl) (by kernel_rfl) rfl (fun _ _ _ h => h) (Or.inl ⟨by kernel_rfl, fun _ _ => by kernel_rfl⟩) hSb (fun _ => trivial) ?_
            try simp only [List.getElem_toArray, List.getElem_cons_succ, List.getElem_cons_zero]
            try dsimp only
            try simp only [Act.put, List.setIfInBounds_toArray, List.set_cons_zero, List.set_cons_succ]
            refine wpAnyT_takeS (i := 9) (v := .slice a2 lm p2) rfl (by kernel_rfl) (by kernel_rfl) (by kernel_rfl) rfl (fun _ _ _ h => h) (Or.inl ⟨by kernel_rfl, fun _ _ => by kernel_rfl⟩) hSb (fun _ => trivial) ?_
            try simp only [List.getElem_toArray, List.getElem_cons_succ, List.getElem_cons_zero]
            try dsimp only
            try simp only [Act.put, List.setIfInBounds_toArray, List.set_cons_zero, List.set_cons_succ]
            refine wpAnyT_takeS (i := 10) (v := .int .i64 p) rfl (by kernel_rfl) (by kernel_rfl) (by kernel_rfl) rfl (fun _ _ _ h => h) (Or.inl ⟨by kernel_rfl, fun _ _ => by kernel_rfl⟩) hSb (fun _ => trivial) ?_
            try simp only [List.getElem_toArray, List.getElem_cons_succ, List.getElem_cons_zero]
            try dsimp only
            try simp only [Act.put, List.setIfInBounds_toArray, List.set_cons_zero, List.set_cons_succ]
            refine wpAnyT_takeS (i := 12) (v := .agg (cF x).toArray) rfl (by kernel_rfl) (by kernel_rfl) (by kernel_rfl) rfl (fun _ _ _ h => h) (yields_load 25 (.tmp 12) rfl b12 (0) (by kernel_rfl) (cF x) _ (by kernel_rfl) (fun W hW => ((HF.out W hW).range 0 _ (fun j v h => by simpa using h))) Tryz.underlying25 rfl (by kernel_rfl)) hSb (fun _ => trivial) ?_
            try simp only [List.getElem_toArray, List.getElem_cons_succ, List.getElem_cons_zero]
            try dsimp only
            try simp only [Act.put, List.setIfInBounds_toArray, List.set_cons_zero, List.set_cons_succ]
            refine wpAnyT_one (j := 11) rfl (by kernel_rfl) (by kernel_rfl) (fun K hK => ?_)
            go_simp
            refine (hBv _ hSb).mono ?_
            rintro e wqhSc ⟨rfl, hqhSc⟩
            have hSc := hSb.trans (hqhSc.mono hSb.size)
            refine hK.out _ _ hSc (fun _ => trivial) ?_
            try simp only [List.getElem_toArray, List.getElem_cons_succ, List.getElem_cons_zero]
            try dsimp only
            try simp only [Act.put, List.setIfInBounds_toArray, List.set_cons_zero, List.set_cons_succ]
            refine wpAnyT_one (j := 13) rfl (by kernel_rfl) (by kernel_rfl) (fun K hK => ?_)
            go_simp
            refine (hcB _).mono ?_
            rintro e wqhSd ⟨rfl, hqhSd⟩
            have hSd := hSc.trans (hqhSd.mono hSc.size)
            refine hK.out _ _ hSd (fun _ => trivial) ?_
            try simp only [List.getElem_toArray, List.getElem_cons_succ, List.getElem_cons_zero]
            try dsimp only
            try simp only [Act.put, List.setIfInBounds_toArray, List.set_cons_zero, List.set_cons_succ]
            refine wpAnyT_takeS (i := 14) (v := .bool false) rfl (by kernel_rfl) (by kernel_rfl) (by kernel_rfl) rfl (fun _ _ _ h => h) (Or.inl ⟨by kernel_rfl, fun W hW => by go_simp⟩) hSd (fun _ => trivial) ?_
            try simp only [List.getElem_toArray, List.getElem_cons_succ, List.getElem_cons_zero]
            try dsimp only
            try simp only [Act.put, List.setIfInBounds_toArray, List.set_cons_zero, List.set_cons_succ]
            refine wpAnyT_takeS (i := 15) (v := .bool false) rfl (by kernel_rfl) (by kernel_rfl) (by kernel_rfl) rfl (fun _ _ _ h => h) (Or.inl ⟨by kernel_rfl, fun W hW => by go_simp⟩) hSd (fun _ => trivial) ?_
            try simp only [List.getElem_toArray, List.getElem_cons_succ, List.getElem_cons_zero]
            try dsimp only
            try simp only [Act.put, List.setIfInBounds_toArray, List.set_cons_zero, List.set_cons_succ]
            refine wpAnyT_done (by kernel_rfl) ?_ _
            go_wp2_with fail
            go_meet
            exact ⟨rfl, hSd⟩
          obtain ⟨rfl, hc0⟩ := hcut
          obtain ⟨w5, hw0⟩ : ∃ x, x = wc := ⟨_, rfl⟩
          subst hw0
          have HB5 := Lib.hid (hb4.trans (hc0.mono hb4.size))
          clear hc0 hb4 hA hBv hcA hcB HF
          go_wp2_with (fail)
          go_roundw
          case rel => exact ⟨p + 1, by omega, by go_num, HB5.out⟩
          case measure => simp [intOf]; omega
        · obtain rfl : p = 41 := by omega
          have hpz : ¬ ((41 : Nat) : Int) < 41 := by omega
          have hsm := sumT_any ai m c2 t _ (by omega) (HLi.out.below hB)
          obtain ⟨s, hs⟩ : ∃ s, s = (sumOf (t.map Title.share)).1 := ⟨_, rfl⟩
          obtain ⟨ok, hok⟩ : ∃ ok, ok = decide ((sumOf (t.map Title.share)).2 = 0) := ⟨_, rfl⟩
          rw [← hs, ← hok] at hsm
          obtain ⟨wn, hwn⟩ : ∃ wn, wn = (wb || (ok && decide (cmpF s ⟨1, 1⟩ ≤ 0))) := ⟨_, rfl⟩
          have Hwb2 := Lib.hid (show wn = (nz || (xss.take (i + 1)).any oneT) by rw [hwn, Hwb.out, Hany.out, oneT, ← hs, ← hok, Bool.or_assoc])
          have Hwn0 := Lib.hid hwn
          clear hs hok hwn
          go_wp2_with (fail)
          refine hsm.mono ?_
          clear hsm
          rintro e w3 ⟨rfl, hB3⟩
          obtain ⟨w6, hw6⟩ : ∃ w6, w6 = w3.alloc (.cells #[.int .i64 s.num, .int .i64 s.den] 25) := ⟨_, rfl⟩
          have kx : Blk w6 w3.heap.size #[.int .i64 s.num, .int .i64 s.den] 25 := hw6 ▸ Blk.new _ _ _
          have hb3 := hB.trans (hB3.mono hB.size)
          have hb6 : RowKit.Below w2.heap.size w2 w6 := hw6 ▸ hb3.alloc hb3.size _
          clear hB hB3 hb3
          go_upto_region 20 with fail
          rw [← hw6]
          clear hw6
          obtain ⟨b13, hb13⟩ : ∃ b, b = w3.heap.size := ⟨_, rfl⟩
          rw [← hb13] at kx ⊢
          clear hb13
          have HF := Lib.hid (fun W' (h : RowKit.Below w6.heap.size w6 W') => kx.below' h)
          clear kx
          have HB6 := Lib.hid hb6
          clear hb6
          cases wb with
          | true =>
            have Hwn := Lib.hid (show wn = true by rw [Hwn0.out]; rfl)
            refine wp_region_T (fun W' => RowKit.Below w6.heap.size w6 W') (fun _ => True) 99 (by kernel_rfl) (Below.refl _ _).drew trivial (fun hS hT => ?_)
            refine wpAnyT_takeS (i := 0) (v := .bool true) rfl (by kernel_rfl) (by kernel_rfl) (by kernel_rfl) rfl (fun _ _ _ h => h) (Or.inl ⟨by kernel_rfl, fun _ _ => by kernel_rfl⟩) hS (fun _ => trivial) ?_
            try simp only [List.getElem_toArray, List.getElem_cons_zero]
            try dsimp only
            try simp only [Act.put, List.setIfInBounds_toArray, List.set_cons_zero, List.set_cons_succ]
            refine wpAnyT_takeS (i := 1) (v := .bool true) rfl (by kernel_rfl) (by kernel_rfl) (by kernel_rfl) rfl (fun _ _ _ h => h) (Or.inl ⟨by kernel_rfl, fun _ _ => by kernel_rfl⟩) hS (fun _ => trivial) ?_
            try simp only [List.getElem_toArray, List.getElem_cons_succ, List.getElem_cons_zero]
            try dsimp only
            try simp only [Act.put, List.setIfInBounds_toArray, List.set_cons_zero, List.set_cons_succ]
            refine wpAnyT_takeS (i := 2) (v := undef) rfl (by kernel_rfl) (by kernel_rfl) (by kernel_rfl) rfl (fun _ _ _ h => h) (Or.inr ⟨by kernel_rfl, rfl⟩) hS (fun _ => trivial) ?_
            try simp only [List.getElem_toArray, List.getElem_cons_succ, List.getElem_cons_zero]
            try dsimp only
            try simp only [Act.put, List.setIfInBounds_toArray, List.set_cons_zero, List.set_cons_succ]
            refine wpAnyT_takeS (i := 3) (v := undef) rfl (by kernel_rfl) (by kernel_rfl) (by kernel_rfl) rfl (fun _ _ _ h => h) (Or.inr ⟨by kernel_rfl, rfl⟩) hS (fun _ => trivial) ?_
            try simp only [List.getElem_toArray, List.getElem_cons_succ, List.getElem_cons_zero]
            try dsimp only
            try simp only [Act.put, List.setIfInBounds_toArray, List.set_cons_zero, List.set_cons_succ]
            refine wpAnyT_takeS (i := 4) (v := undef) rfl (by kernel_rfl) (by kernel_rfl) (by kernel_rfl) rfl (fun _ _ _ h => h) (Or.inr ⟨by kernel_rfl, rfl⟩) hS (fun _ => trivial) ?_
            try simp only [List.getElem_toArray, List.getElem_cons_succ, List.getElem_cons_zero]
            try dsimp only
            try simp only [Act.put, List.setIfInBounds_toArray, List.set_cons_zero, List.set_cons_succ]
            refine wpAnyT_takeS (i := 5) (v := undef) rfl (by kernel_rfl) (by kernel_rfl) (by kernel_rfl) rfl (fun _ _ _ h => h) (Or.inr ⟨by kernel_rfl, rfl⟩) hS (fun _ => trivial) ?_
            try simp only [List.getElem_toArray, List.getElem_cons_succ, List.getElem_cons_zero]
            try dsimp only
            try simp only [Act.put, List.setIfInBounds_toArray, List.set_cons_zero, List.set_cons_succ]
            refine wpAnyT_takeS (i := 6) (v := undef) rfl (by kernel_rfl) (by kernel_rfl) (by kernel_rfl) rfl (fun _ _ _ h => h) (Or.inr ⟨by kernel_rfl, rfl⟩) hS (fun _ => trivial) ?_
            try simp only [List.getElem_toArray, List.getElem_cons_succ, List.getElem_cons_zero]
            try dsimp only
            try simp only [Act.put, List.setIfInBounds_toArray, List.set_cons_zero, List.set_cons_succ]
            refine wpAnyT_takeS (i := 7) (v := undef) rfl (by kernel_rfl) (by kernel_rfl) (by kernel_rfl) rfl (fun _ _ _ h => h) (Or.inr ⟨by kernel_rfl, rfl⟩) hS (fun _ => trivial) ?_
            try simp only [List.getElem_toArray, List.getElem_cons_succ, List.getElem_cons_zero]
            try dsimp only
            try simp only [Act.put, List.setIfInBounds_toArray, List.set_cons_zero, List.set_cons_succ]
            refine wpAnyT_takeS (i := 8) (v := undef) rfl (by kernel_rfl) (by kernel_rfl) (by kernel_rfl) rfl (fun _ _ _ h => h) (Or.inr ⟨by kernel_rfl, rfl⟩) hS (fun _ => trivial) ?_
            try simp only [List.getElem_toArray, List.getElem_cons_succ, List.getElem_cons_zero]
            try dsimp only
            try simp only [Act.put, List.setIfInBounds_toArray, List.set_cons_zero, List.set_cons_succ]
            refine wpAnyT_takeS (i := 9) (v := .bool true) rfl (by kernel_rfl) (by kernel_rfl) (by kernel_rfl) rfl (fun _ _ _ h => h) (Or.inl ⟨by kernel_rfl, fun W hW => by go_simp⟩) hS (fun _ => trivial) ?_
            try simp only [List.getElem_toArray, List.getElem_cons_succ, List.getElem_cons_zero]
            try dsimp only
            try simp only [Act.put, List.setIfInBounds_toArray, List.set_cons_zero, List.set_cons_succ]
            refine wpAnyT_takeS (i := 10) (v := .bool true) rfl (by kernel_rfl) (by kernel_rfl) (by kernel_rfl) rfl (fun _ _ _ h => h) (Or.inl ⟨by kernel_rfl, fun _ _ => by kernel_rfl⟩) hS (fun _ => trivial) ?_
            try simp only [List.getElem_toArray, List.getElem_cons_succ, List.getElem_cons_zero]
            try dsimp only
            try simp only [Act.put, List.setIfInBounds_toArray, List.set_cons_zero, List.set_cons_succ]
            refine wpAnyT_done (by kernel_rfl) ?_ _
            go_wp2_with fail
            go_roundw
            case rel => exact ⟨i + 1, by omega, by go_num, ⟨wn, by rw [Hwn.out], Hwb2⟩, HB6.out.trans (hS.mono HB6.out.size)⟩
            case measure => simp [intOf]; omega
          | false =>
          cases ok with
          | false =>
            have Hwn := Lib.hid (show wn = false by rw [Hwn0.out]; rfl)
            refine wp_region_T (fun W' => RowKit.Below w6.heap.size w6 W') (fun _ => True) 99 (by kernel_rfl) (Below.refl _ _).drew trivial (fun hS hT => ?_)
            refine wpAnyT_takeS (i := 0) (v := .bool false) rfl (by kernel_rfl) (by kernel_rfl) (by kernel_rfl) rfl (fun _ _ _ h => h) (Or.inl ⟨by kernel_rfl, fun _ _ => by kernel_rfl⟩) hS (fun _ => trivial) ?_
            try simp only [List.getElem_toArray, List.getElem_cons_zero]
            try dsimp only
            try simp only [Act.put, List.setIfInBounds_toArray, List.set_cons_zero, List.set_cons_succ]
            refine wpAnyT_takeS (i := 1) (v := .bool false) rfl (by kernel_rfl) (by kernel_rfl) (by kernel_rfl) rfl (fun _ _ _ h => h) (Or.inl ⟨by kernel_rfl, fun _ _ => by kernel_rfl⟩) hS (fun _ => trivial) ?_
            try simp only [List.getElem_toArray, List.getElem_cons_succ, List.getElem_cons_zero]
            try dsimp only
            try simp only [Act.put, List.setIfInBounds_toArray, List.set_cons_zero, List.set_cons_succ]
            refine wpAnyT_takeS (i := 2) (v := .bool false) rfl (by kernel_rfl) (by kernel_rfl) (by kernel_rfl) rfl (fun _ _ _ h => h) (Or.inl ⟨by kernel_rfl, fun _ _ => by kernel_rfl⟩) hS (fun _ => trivial) ?_
            try simp only [List.getElem_toArray, List.getElem_cons_succ, List.getElem_cons_zero]
            try dsimp only
            try simp only [Act.put, List.setIfInBounds_toArray, List.set_cons_zero, List.set_cons_succ]
            refine wpAnyT_takeS (i := 3) (v := .bool false) rfl (by kernel_rfl) (by kernel_rfl) (by kernel_rfl) rfl (fun _ _ _ h => h) (Or.inl ⟨by kernel_rfl, fun _ _ => by kernel_rfl⟩) hS (fun _ => trivial) ?_
            try simp only [List.getElem_toArray, List.getElem_cons_succ, List.getElem_cons_zero]
            try dsimp only
            try simp only [Act.put, List.setIfInBounds_toArray, List.set_cons_zero, List.set_cons_succ]
            refine wpAnyT_takeS (i := 4) (v := undef) rfl (by kernel_rfl) (by kernel_rfl) (by kernel_rfl) rfl (fun _ _ _ h => h) (Or.inr ⟨by kernel_rfl, rfl⟩) hS (fun _ => trivial) ?_
            try simp only [List.getElem_toArray, List.getElem_cons_succ, List.getElem_cons_zero]
            try dsimp only
            try simp only [Act.put, List.setIfInBounds_toArray, List.set_cons_zero, List.set_cons_succ]
            refine wpAnyT_takeS (i := 5) (v := undef) rfl (by kernel_rfl) (by kernel_rfl) (by kernel_rfl) rfl (fun _ _ _ h => h) (Or.inr ⟨by kernel_rfl, rfl⟩) hS (fun _ => trivial) ?_
            try simp only [List.getElem_toArray, List.getElem_cons_succ, List.getElem_cons_zero]
            try dsimp only
            try simp only [Act.put, List.setIfInBounds_toArray, List.set_cons_zero, List.set_cons_succ]
            refine wpAnyT_takeS (i := 6) (v := undef) rfl (by kernel_rfl) (by kernel_rfl) (by kernel_rfl) rfl (fun _ _ _ h => h) (Or.inr ⟨by kernel_rfl, rfl⟩) hS (fun _ => trivial) ?_
            try simp only [List.getElem_toArray, List.getElem_cons_succ, List.getElem_cons_zero]
            try dsimp only
            try simp only [Act.put, List.setIfInBounds_toArray, List.set_cons_zero, List.set_cons_succ]
            refine wpAnyT_takeS (i := 7) (v := undef) rfl (by kernel_rfl) (by kernel_rfl) (by kernel_rfl) rfl (fun _ _ _ h => h) (Or.inr ⟨by kernel_rfl, rfl⟩) hS (fun _ => trivial) ?_
            try simp only [List.getElem_toArray, List.getElem_cons_succ, List.getElem_cons_zero]
            try dsimp only
            try simp only [Act.put, List.setIfInBounds_toArray, List.set_cons_zero, List.set_cons_succ]
            refine wpAnyT_takeS (i := 8) (v := .bool false) rfl (by kernel_rfl) (by kernel_rfl) (by kernel_rfl) rfl (fun _ _ _ h => h) (Or.inl ⟨by kernel_rfl, fun W hW => by go_simp⟩) hS (fun _ => trivial) ?_
            try simp only [List.getElem_toArray, List.getElem_cons_succ, List.getElem_cons_zero]
            try dsimp only
            try simp only [Act.put, List.setIfInBounds_toArray, List.set_cons_zero, List.set_cons_succ]
            refine wpAnyT_takeS (i := 9) (v := .bool false) rfl (by kernel_rfl) (by kernel_rfl) (by kernel_rfl) rfl (fun _ _ _ h => h) (Or.inl ⟨by kernel_rfl, fun W hW => by go_simp⟩) hS (fun _ => trivial) ?_
            try simp only [List.getElem_toArray, List.getElem_cons_succ, List.getElem_cons_zero]
            try dsimp only
            try simp only [Act.put, List.setIfInBounds_toArray, List.set_cons_zero, List.set_cons_succ]
            refine wpAnyT_takeS (i := 10) (v := .bool false) rfl (by kernel_rfl) (by kernel_rfl) (by kernel_rfl) rfl (fun _ _ _ h => h) (Or.inl ⟨by kernel_rfl, fun _ _ => by kernel_rfl⟩) hS (fun _ => trivial) ?_
            try simp only [List.getElem_toArray, List.getElem_cons_succ, List.getElem_cons_zero]
            try dsimp only
            try simp only [Act.put, List.setIfInBounds_toArray, List.set_cons_zero, List.set_cons_succ]
            refine wpAnyT_done (by kernel_rfl) ?_ _
            go_wp2_with fail
            go_roundw
            case rel => exact ⟨i + 1, by omega, by go_num, ⟨wn, by rw [Hwn.out], Hwb2⟩, HB6.out.trans (hS.mono HB6.out.size)⟩
            case measure => simp [intOf]; omega
          | true =>
            have hcm := fun W => compareD_any s ⟨1, 1⟩ W
            obtain ⟨cv, hcv⟩ : ∃ c, c = cmpF s ⟨1, 1⟩ := ⟨_, rfl⟩
            obtain ⟨cb, hcb⟩ : ∃ cb, cb = decide (cv ≤ 0) := ⟨_, rfl⟩
            have Hwn := Lib.hid (show wn = cb by rw [Hwn0.out, ← hcv, ← hcb]; rfl)
            rw [← hcv] at hcm
            have hcb2 : decide (cv ≤ 0) = cb := hcb.symm
            clear hcv hcb
            refine wp_region_T (fun W' => RowKit.Below w6.heap.size w6 W') (fun _ => True) 99 (by kernel_rfl) (Below.refl _ _).drew trivial (fun hS hT => ?_)
            refine wpAnyT_takeS (i := 0) (v := .bool false) rfl (by kernel_rfl) (by kernel_rfl) (by kernel_rfl) rfl (fun _ _ _ h => h) (Or.inl ⟨by kernel_rfl, fun _ _ => by kernel_rfl⟩) hS (fun _ => trivial) ?_
            try simp only [List.getElem_toArray, List.getElem_cons_zero]
            try dsimp only
            try simp only [Act.put, List.setIfInBounds_toArray, List.set_cons_zero, List.set_cons_succ]
            refine wpAnyT_takeS (i := 1) (v := .bool false) rfl (by kernel_rfl) (by kernel_rfl) (by kernel_rfl) rfl (fun _ _ _ h => h) (Or.inl ⟨by kernel_rfl, fun _ _ => by kernel_rfl⟩) hS (fun _ => trivial) ?_
            try simp only [List.getElem_toArray, List.getElem_cons_succ, List.getElem_cons_zero]
            try dsimp only
            try simp only [Act.put, List.setIfInBounds_toArray, List.set_cons_zero, List.set_cons_succ]
            refine wpAnyT_takeS (i := 2) (v := .bool true) rfl (by kernel_rfl) (by kernel_rfl) (by kernel_rfl) rfl (fun _ _ _ h => h) (Or.inl ⟨by kernel_rfl, fun _ _ => by kernel_rfl⟩) hS (fun _ => trivial) ?_
            try simp only [List.getElem_toArray, List.getElem_cons_succ, List.getElem_cons_zero]
            try dsimp only
            try simp only [Act.put, List.setIfInBounds_toArray, List.set_cons_zero, List.set_cons_succ]
            refine wpAnyT_takeS (i := 3) (v := .bool true) rfl (by kernel_rfl) (by kernel_rfl) (by kernel_rfl) rfl (fun _ _ _ h => h) (Or.inl ⟨by kernel_rfl, fun _ _ => by kernel_rfl⟩) hS (fun _ => trivial) ?_
            try simp only [List.getElem_toArray, List.getElem_cons_succ, List.getElem_cons_zero]
            try dsimp only
            try simp only [Act.put, List.setIfInBounds_toArray, List.set_cons_zero, List.set_cons_succ]
            refine wpAnyT_takeS (i := 4) (v := .agg (cF s).toArray) rfl (by kernel_rfl) (by kernel_rfl) (by kernel_rfl) rfl (fun _ _ _ h => h) (yields_load 25 (.tmp 13) rfl b13 (0) (by kernel_rfl) (cF s) _ (by kernel_rfl) (fun W hW => ((HF.out W hW).range 0 _ (fun j v h => by simpa using h))) Tryz.underlying25 rfl (by kernel_rfl)) hS (fun _ => trivial) ?_
            try simp only [List.getElem_toArray, List.getElem_cons_succ, List.getElem_cons_zero]
            try dsimp only
            try simp only [Act.put, List.setIfInBounds_toArray, List.set_cons_zero, List.set_cons_succ]
            refine wpAnyT_one (j := 5) rfl (by kernel_rfl) (by kernel_rfl) (fun K hK => ?_)
            go_simp
            refine (fD_any 1 1 _).mono ?_
            rintro e wqhSa ⟨rfl, hqhSa⟩
            have hSa := hS.trans (hqhSa.mono hS.size)
            refine hK.out _ _ hSa (fun _ => trivial) ?_
            try simp only [List.getElem_toArray, List.getElem_cons_succ, List.getElem_cons_zero]
            try dsimp only
            try simp only [Act.put, List.setIfInBounds_toArray, List.set_cons_zero, List.set_cons_succ]
            refine wpAnyT_one (j := 6) rfl (by kernel_rfl) (by kernel_rfl) (fun K hK => ?_)
            go_simp
            refine (hcm _).mono ?_
            rintro e wqhSb ⟨rfl, hqhSb⟩
            have hSb := hSa.trans (hqhSb.mono hSa.size)
            refine hK.out _ _ hSb (fun _ => trivial) ?_
            try simp only [List.getElem_toArray, List.getElem_cons_succ, List.getElem_cons_zero]
            try dsimp only
            try simp only [Act.put, List.setIfInBounds_toArray, List.set_cons_zero, List.set_cons_succ]
            refine wpAnyT_takeS (i := 7) (v := .bool cb) rfl (by kernel_rfl) (by kernel_rfl) (by kernel_rfl) rfl (fun _ _ _ h => h) (Or.inl ⟨by kernel_rfl, fun W hW => by go_simp⟩) hSb (fun _ => trivial) ?_
            try simp only [List.getElem_toArray, List.getElem_cons_succ, List.getElem_cons_zero]
            try dsimp only
            try simp only [Act.put, List.setIfInBounds_toArray, List.set_cons_zero, List.set_cons_succ]
            refine wpAnyT_takeS (i := 8) (v := .bool cb) rfl (by kernel_rfl) (by kernel_rfl) (by kernel_rfl) rfl (fun _ _ _ h => h) (Or.inl ⟨by kernel_rfl, fun W hW => by go_simp⟩) hSb (fun _ => trivial) ?_
            try simp only [List.getElem_toArray, List.getElem_cons_succ, List.getElem_cons_zero]
            try dsimp only
            try simp only [Act.put, List.setIfInBounds_toArray, List.set_cons_zero, List.set_cons_succ]
            refine wpAnyT_takeS (i := 9) (v := .bool cb) rfl (by kernel_rfl) (by kernel_rfl) (by kernel_rfl) rfl (fun _ _ _ h => h) (Or.inl ⟨by kernel_rfl, fun W hW => by go_simp⟩) hSb (fun _ => trivial) ?_
            try simp only [List.getElem_toArray, List.getElem_cons_succ, List.getElem_cons_zero]
            try dsimp only
            try simp only [Act.put, List.setIfInBounds_toArray, List.set_cons_zero, List.set_cons_succ]
            refine wpAnyT_takeS (i := 10) (v := .bool cb) rfl (by kernel_rfl) (by kernel_rfl) (by kernel_rfl) rfl (fun _ _ _ h => h) (Or.inl ⟨by kernel_rfl, fun _ _ => by kernel_rfl⟩) hSb (fun _ => trivial) ?_
            try simp only [List.getElem_toArray, List.getElem_cons_succ, List.getElem_cons_zero]
            try dsimp only
            try simp only [Act.put, List.setIfInBounds_toArray, List.set_cons_zero, List.set_cons_succ]
            refine wpAnyT_done (by kernel_rfl) ?_ _
            go_wp2_with fail
            go_roundw
            case rel => exact ⟨i + 1, by omega, by go_num, ⟨wn, by rw [Hwn.out], Hwb2⟩, HB6.out.trans (hSb.mono HB6.out.size)⟩
            case measure => simp [intOf]; omega
    · obtain rfl : i = n := by omega
      have hlz : ¬ (i : Int) < (i : Int) := by omega
      have hwf : wb = wholeT xss.length xss := by rw [Hwb.out, List.take_of_length_le (by have := Hlen.out; omega), wholeT, Hnz.out, Hlen.out]
      have hsm := sumT_any a1 ln p1 cs _ (by omega) (HL1.out.below hB)
      obtain ⟨s, hs⟩ : ∃ s, s = (sumOf (cs.map Title.share)).1 := ⟨_, rfl⟩
      obtain ⟨ok, hok⟩ : ∃ ok, ok = decide ((sumOf (cs.map Title.share)).2 = 0) := ⟨_, rfl⟩
      rw [← hs, ← hok] at hsm
      have Hq := Lib.hid (show wb = true → ok = true → cmpF s ⟨1, 1⟩ ≤ 0 from fun h1 h2 => by rw [hs]; exact Hfin.out (by rw [← hwf]; exact h1) (by rw [hok] at h2; simpa using h2))
      clear hwf hs hok Hwb
      go_wp2_with (fail)
      refine hsm.mono ?_
      clear hsm
      rintro e w3 ⟨rfl, hB3⟩
      obtain ⟨w8, hw8⟩ : ∃ w8, w8 = w3.alloc (.cells #[.int .i64 s.num, .int .i64 s.den] 25) := ⟨_, rfl⟩
      have kx : Blk w8 w3.heap.size #[.int .i64 s.num, .int .i64 s.den] 25 := hw8 ▸ Blk.new _ _ _
      have hb3 := hB.trans (hB3.mono hB.size)
      have hb8 : RowKit.Below w2.heap.size w2 w8 := hw8 ▸ hb3.alloc hb3.size _
      have hbw := HB2.out.trans (hb8.mono HB2.out.size)
      clear hB hB3 hb3
      go_upto_region 23 with fail
      rw [← hw8]
      clear hw8
      obtain ⟨b15, hb15⟩ : ∃ b, b = w3.heap.size := ⟨_, rfl⟩
      rw [← hb15] at kx ⊢
      clear hb15
      have HF := Lib.hid (fun W' (h : RowKit.Below w8.heap.size w8 W') => kx.below' h)
      have hal := fun W' (h : RowKit.Below w8.heap.size w8 W') => Hal.out W' (hbw.trans (h.mono hbw.size))
      have HB := Lib.hid hbw
      clear kx hb8 hbw
      cases wb with
      | false =>
        refine wp_region_T (fun W' => RowKit.Below w8.heap.size w8 W') (fun _ => True) 99 (by kernel_rfl) (Below.refl _ _).drew trivial (fun hS hT => ?_)
        refine wpAnyT_one (j := 0) rfl (by kernel_rfl) (by kernel_rfl) (fun K hK => ?_)
        go_simp
        refine (hal _ hS).mono ?_
        rintro e wqhSa ⟨rfl, hqhSa⟩
        have hSa := hS.trans (hqhSa.mono hS.size)
        refine hK.out _ _ hSa (fun _ => trivial) ?_
        try simp only [List.getElem_toArray, List.getElem_cons_succ, List.getElem_cons_zero]
        try dsimp only
        try simp only [Act.put, List.setIfInBounds_toArray, List.set_cons_zero, List.set_cons_succ]
        refine wpAnyT_takeS (i := 1) (v := .bool true) rfl (by kernel_rfl) (by kernel_rfl) (by kernel_rfl) rfl (fun _ _ _ h => h) (Or.inl ⟨by kernel_rfl, fun _ _ => by kernel_rfl⟩) hSa (fun _ => trivial) ?_
        try simp only [List.getElem_toArray, List.getElem_cons_succ, List.getElem_cons_zero]
        try dsimp only
        try simp only [Act.put, List.setIfInBounds_toArray, List.set_cons_zero, List.set_cons_succ]
        refine wpAnyT_takeS (i := 2) (v := .bool false) rfl (by kernel_rfl) (by kernel_rfl) (by kernel_rfl) rfl (fun _ _ _ h => h) (Or.inl ⟨by kernel_rfl, fun _ _ => by kernel_rfl⟩) hSa (fun _ => trivial) ?_
        try simp only [List.getElem_toArray, List.getElem_cons_succ, List.getElem_cons_zero]
        try dsimp only
        try simp only [Act.put, List.setIfInBounds_toArray, List.set_cons_zero, List.set_cons_succ]
        refine wpAnyT_takeS (i := 3) (v := .bool true) rfl (by kernel_rfl) (by kernel_rfl) (by kernel_rfl) rfl (fun _ _ _ h => h) (Or.inl ⟨by kernel_rfl, fun W hW => by go_simp⟩) hSa (fun _ => trivial) ?_
        try simp only [List.getElem_toArray, List.getElem_cons_succ, List.getElem_cons_zero]
        try dsimp only
        try simp only [Act.put, List.setIfInBounds_toArray, List.set_cons_zero, List.set_cons_succ]
        refine wpAnyT_takeS (i := 4) (v := .bool true) rfl (by kernel_rfl) (by kernel_rfl) (by kernel_rfl) rfl (fun _ _ _ h => h) (Or.inl ⟨by kernel_rfl, fun _ _ => by kernel_rfl⟩) hSa (fun _ => trivial) ?_
        try simp only [List.getElem_toArray, List.getElem_cons_succ, List.getElem_cons_zero]
        try dsimp only
        try simp only [Act.put, List.setIfInBounds_toArray, List.set_cons_zero, List.set_cons_succ]
        refine wpAnyT_takeS (i := 5) (v := undef) rfl (by kernel_rfl) (by kernel_rfl) (by kernel_rfl) rfl (fun _ _ _ h => h) (Or.inr ⟨by kernel_rfl, rfl⟩) hSa (fun _ => trivial) ?_
        try simp only [List.getElem_toArray, List.getElem_cons_succ, List.getElem_cons_zero]
        try dsimp only
        try simp only [Act.put, List.setIfInBounds_toArray, List.set_cons_zero, List.set_cons_succ]
        refine wpAnyT_takeS (i := 6) (v := undef) rfl (by kernel_rfl) (by kernel_rfl) (by kernel_rfl) rfl (fun _ _ _ h => h) (Or.inr ⟨by kernel_rfl, rfl⟩) hSa (fun _ => trivial) ?_
        try simp only [List.getElem_toArray, List.getElem_cons_succ, List.getElem_cons_zero]
        try dsimp only
        try simp only [Act.put, List.setIfInBounds_toArray, List.set_cons_zero, List.set_cons_succ]
        refine wpAnyT_takeS (i := 7) (v := .bool true) rfl (by kernel_rfl) (by kernel_rfl) (by kernel_rfl) rfl (fun _ _ _ h => h) (Or.inl ⟨by kernel_rfl, fun W hW => by go_simp⟩) hSa (fun _ => trivial) ?_
        try simp only [List.getElem_toArray, List.getElem_cons_succ, List.getElem_cons_zero]
        try dsimp only
        try simp only [Act.put, List.setIfInBounds_toArray, List.set_cons_zero, List.set_cons_succ]
        refine wpAnyT_takeS (i := 8) (v := .bool true) rfl (by kernel_rfl) (by kernel_rfl) (by kernel_rfl) rfl (fun _ _ _ h => h) (Or.inl ⟨by kernel_rfl, fun _ _ => by kernel_rfl⟩) hSa (fun _ => trivial) ?_
        try simp only [List.getElem_toArray, List.getElem_cons_succ, List.getElem_cons_zero]
        try dsimp only
        try simp only [Act.put, List.setIfInBounds_toArray, List.set_cons_zero, List.set_cons_succ]
        refine wpAnyT_takeS (i := 9) (v := undef) rfl (by kernel_rfl) (by kernel_rfl) (by kernel_rfl) rfl (fun _ _ _ h => h) (Or.inr ⟨by kernel_rfl, rfl⟩) hSa (fun _ => trivial) ?_
        try simp only [List.getElem_toArray, List.getElem_cons_succ, List.getElem_cons_zero]
        try dsimp only
        try simp only [Act.put, List.setIfInBounds_toArray, List.set_cons_zero, List.set_cons_succ]
        refine wpAnyT_takeS (i := 10) (v := undef) rfl (by kernel_rfl) (by kernel_rfl) (by kernel_rfl) rfl (fun _ _ _ h => h) (Or.inr ⟨by kernel_rfl, rfl⟩) hSa (fun _ => trivial) ?_
        try simp only [List.getElem_toArray, List.getElem_cons_succ, List.getElem_cons_zero]
        try dsimp only
        try simp only [Act.put, List.setIfInBounds_toArray, List.set_cons_zero, List.set_cons_succ]
        refine wpAnyT_takeS (i := 11) (v := undef) rfl (by kernel_rfl) (by kernel_rfl) (by kernel_rfl) rfl (fun _ _ _ h => h) (Or.inr ⟨by kernel_rfl, rfl⟩) hSa (fun _ => trivial) ?_
        try simp only [List.getElem_toArray, List.getElem_cons_succ, List.getElem_cons_zero]
        try dsimp only
        try simp only [Act.put, List.setIfInBounds_toArray, List.set_cons_zero, List.set_cons_succ]
        refine wpAnyT_takeS (i := 12) (v := undef) rfl (by kernel_rfl) (by kernel_rfl) (by kernel_rfl) rfl (fun _ _ _ h => h) (Or.inr ⟨by kernel_rfl, rfl⟩) hSa (fun _ => trivial) ?_
        try simp only [List.getElem_toArray, List.getElem_cons_succ, List.getElem_cons_zero]
        try dsimp only
        try simp only [Act.put, List.setIfInBounds_toArray, List.set_cons_zero, List.set_cons_succ]
        refine wpAnyT_takeS (i := 13) (v := .bool true) rfl (by kernel_rfl) (by kernel_rfl) (by kernel_rfl) rfl (fun _ _ _ h => h) (Or.inl ⟨by kernel_rfl, fun W hW => by go_simp⟩) hSa (fun _ => trivial) ?_
        try simp only [List.getElem_toArray, List.getElem_cons_succ, List.getElem_cons_zero]
        try dsimp only
        try simp only [Act.put, List.setIfInBounds_toArray, List.set_cons_zero, List.set_cons_succ]
        refine wpAnyT_takeS (i := 14) (v := .bool true) rfl (by kernel_rfl) (by kernel_rfl) (by kernel_rfl) rfl (fun _ _ _ h => h) (Or.inl ⟨by kernel_rfl, fun W hW => by go_simp⟩) hSa (fun _ => trivial) ?_
        try simp only [List.getElem_toArray, List.getElem_cons_succ, List.getElem_cons_zero]
        try dsimp only
        try simp only [Act.put, List.setIfInBounds_toArray, List.set_cons_zero, List.set_cons_succ]
        refine wpAnyT_takeS (i := 15) (v := .bool true) rfl (by kernel_rfl) (by kernel_rfl) (by kernel_rfl) rfl (fun _ _ _ h => h) (Or.inl ⟨by kernel_rfl, fun _ _ => by kernel_rfl⟩) hSa (fun _ => trivial) ?_
        try simp only [List.getElem_toArray, List.getElem_cons_succ, List.getElem_cons_zero]
        try dsimp only
        try simp only [Act.put, List.setIfInBounds_toArray, List.set_cons_zero, List.set_cons_succ]
        refine wpAnyT_done (by kernel_rfl) ?_ _
        go_wp2_with fail
        go_ret
        exact ⟨rfl, HB.out.trans (hSa.mono HB.out.size)⟩
      | true =>
      cases ok with
      | false =>
        refine wp_region_T (fun W' => RowKit.Below w8.heap.size w8 W') (fun _ => True) 99 (by kernel_rfl) (Below.refl _ _).drew trivial (fun hS hT => ?_)
        refine wpAnyT_one (j := 0) rfl (by kernel_rfl) (by kernel_rfl) (fun K hK => ?_)
        go_simp
        refine (hal _ hS).mono ?_
        rintro e wqhSa ⟨rfl, hqhSa⟩
        have hSa := hS.trans (hqhSa.mono hS.size)
        refine hK.out _ _ hSa (fun _ => trivial) ?_
        try simp only [List.getElem_toArray, List.getElem_cons_succ, List.getElem_cons_zero]
        try dsimp only
        try simp only [Act.put, List.setIfInBounds_toArray, List.set_cons_zero, List.set_cons_succ]
        refine wpAnyT_takeS (i := 1) (v := .bool true) rfl (by kernel_rfl) (by kernel_rfl) (by kernel_rfl) rfl (fun _ _ _ h => h) (Or.inl ⟨by kernel_rfl, fun _ _ => by kernel_rfl⟩) hSa (fun _ => trivial) ?_
        try simp only [List.getElem_toArray, List.getElem_cons_succ, List.getElem_cons_zero]
        try dsimp only
        try simp only [Act.put, List.setIfInBounds_toArray, List.set_cons_zero, List.set_cons_succ]
        refine wpAnyT_takeS (i := 2) (v := .bool true) rfl (by kernel_rfl) (by kernel_rfl) (by kernel_rfl) rfl (fun _ _ _ h => h) (Or.inl ⟨by kernel_rfl, fun _ _ => by kernel_rfl⟩) hSa (fun _ => trivial) ?_
        try simp only [List.getElem_toArray, List.getElem_cons_succ, List.getElem_cons_zero]
        try dsimp only
        try simp only [Act.put, List.setIfInBounds_toArray, List.set_cons_zero, List.set_cons_succ]
        refine wpAnyT_takeS (i := 3) (v := .bool false) rfl (by kernel_rfl) (by kernel_rfl) (by kernel_rfl) rfl (fun _ _ _ h => h) (Or.inl ⟨by kernel_rfl, fun W hW => by go_simp⟩) hSa (fun _ => trivial) ?_
        try simp only [List.getElem_toArray, List.getElem_cons_succ, List.getElem_cons_zero]
        try dsimp only
        try simp only [Act.put, List.setIfInBounds_toArray, List.set_cons_zero, List.set_cons_succ]
        refine wpAnyT_takeS (i := 4) (v := .bool false) rfl (by kernel_rfl) (by kernel_rfl) (by kernel_rfl) rfl (fun _ _ _ h => h) (Or.inl ⟨by kernel_rfl, fun _ _ => by kernel_rfl⟩) hSa (fun _ => trivial) ?_
        try simp only [List.getElem_toArray, List.getElem_cons_succ, List.getElem_cons_zero]
        try dsimp only
        try simp only [Act.put, List.setIfInBounds_toArray, List.set_cons_zero, List.set_cons_succ]
        refine wpAnyT_takeS (i := 5) (v := .bool false) rfl (by kernel_rfl) (by kernel_rfl) (by kernel_rfl) rfl (fun _ _ _ h => h) (Or.inl ⟨by kernel_rfl, fun _ _ => by kernel_rfl⟩) hSa (fun _ => trivial) ?_
        try simp only [List.getElem_toArray, List.getElem_cons_succ, List.getElem_cons_zero]
        try dsimp only
        try simp only [Act.put, List.setIfInBounds_toArray, List.set_cons_zero, List.set_cons_succ]
        refine wpAnyT_takeS (i := 6) (v := .bool true) rfl (by kernel_rfl) (by kernel_rfl) (by kernel_rfl) rfl (fun _ _ _ h => h) (Or.inl ⟨by kernel_rfl, fun W hW => by go_simp⟩) hSa (fun _ => trivial) ?_
        try simp only [List.getElem_toArray, List.getElem_cons_succ, List.getElem_cons_zero]
        try dsimp only
        try simp only [Act.put, List.setIfInBounds_toArray, List.set_cons_zero, List.set_cons_succ]
        refine wpAnyT_takeS (i := 7) (v := .bool true) rfl (by kernel_rfl) (by kernel_rfl) (by kernel_rfl) rfl (fun _ _ _ h => h) (Or.inl ⟨by kernel_rfl, fun W hW => by go_simp⟩) hSa (fun _ => trivial) ?_
        try simp only [List.getElem_toArray, List.getElem_cons_succ, List.getElem_cons_zero]
        try dsimp only
        try simp only [Act.put, List.setIfInBounds_toArray, List.set_cons_zero, List.set_cons_succ]
        refine wpAnyT_takeS (i := 8) (v := .bool true) rfl (by kernel_rfl) (by kernel_rfl) (by kernel_rfl) rfl (fun _ _ _ h => h) (Or.inl ⟨by kernel_rfl, fun _ _ => by kernel_rfl⟩) hSa (fun _ => trivial) ?_
        try simp only [List.getElem_toArray, List.getElem_cons_succ, List.getElem_cons_zero]
        try dsimp only
        try simp only [Act.put, List.setIfInBounds_toArray, List.set_cons_zero, List.set_cons_succ]
        refine wpAnyT_takeS (i := 9) (v := undef) rfl (by kernel_rfl) (by kernel_rfl) (by kernel_rfl) rfl (fun _ _ _ h => h) (Or.inr ⟨by kernel_rfl, rfl⟩) hSa (fun _ => trivial) ?_
        try simp only [List.getElem_toArray, List.getElem_cons_succ, List.getElem_cons_zero]
        try dsimp only
        try simp only [Act.put, List.setIfInBounds_toArray, List.set_cons_zero, List.set_cons_succ]
        refine wpAnyT_takeS (i := 10) (v := undef) rfl (by kernel_rfl) (by kernel_rfl) (by kernel_rfl) rfl (fun _ _ _ h => h) (Or.inr ⟨by kernel_rfl, rfl⟩) hSa (fun _ => trivial) ?_
        try simp only [List.getElem_toArray, List.getElem_cons_succ, List.getElem_cons_zero]
        try dsimp only
        try simp only [Act.put, List.setIfInBounds_toArray, List.set_cons_zero, List.set_cons_succ]
        refine wpAnyT_takeS (i := 11) (v := undef) rfl (by kernel_rfl) (by kernel_rfl) (by kernel_rfl) rfl (fun _ _ _ h => h) (Or.inr ⟨by kernel_rfl, rfl⟩) hSa (fun _ => trivial) ?_
        try simp only [List.getElem_toArray, List.getElem_cons_succ, List.getElem_cons_zero]
        try dsimp only
        try simp only [Act.put, List.setIfInBounds_toArray, List.set_cons_zero, List.set_cons_succ]
        refine wpAnyT_takeS (i := 12) (v := undef) rfl (by kernel_rfl) (by kernel_rfl) (by kernel_rfl) rfl (fun _ _ _ h => h) (Or.inr ⟨by kernel_rfl, rfl⟩) hSa (fun _ => trivial) ?_
        try simp only [List.getElem_toArray, List.getElem_cons_succ, List.getElem_cons_zero]
        try dsimp only
        try simp only [Act.put, List.setIfInBounds_toArray, List.set_cons_zero, List.set_cons_succ]
        refine wpAnyT_takeS (i := 13) (v := .bool true) rfl (by kernel_rfl) (by kernel_rfl) (by kernel_rfl) rfl (fun _ _ _ h => h) (Or.inl ⟨by kernel_rfl, fun W hW => by go_simp⟩) hSa (fun _ => trivial) ?_
        try simp only [List.getElem_toArray, List.getElem_cons_succ, List.getElem_cons_zero]
        try dsimp only
        try simp only [Act.put, List.setIfInBounds_toArray, List.set_cons_zero, List.set_cons_succ]
        refine wpAnyT_takeS (i := 14) (v := .bool true) rfl (by kernel_rfl) (by kernel_rfl) (by kernel_rfl) rfl (fun _ _ _ h => h) (Or.inl ⟨by kernel_rfl, fun W hW => by go_simp⟩) hSa (fun _ => trivial) ?_
        try simp only [List.getElem_toArray, List.getElem_cons_succ, List.getElem_cons_zero]
        try dsimp only
        try simp only [Act.put, List.setIfInBounds_toArray, List.set_cons_zero, List.set_cons_succ]
        refine wpAnyT_takeS (i := 15) (v := .bool true) rfl (by kernel_rfl) (by kernel_rfl) (by kernel_rfl) rfl (fun _ _ _ h => h) (Or.inl ⟨by kernel_rfl, fun _ _ => by kernel_rfl⟩) hSa (fun _ => trivial) ?_
        try simp only [List.getElem_toArray, List.getElem_cons_succ, List.getElem_cons_zero]
        try dsimp only
        try simp only [Act.put, List.setIfInBounds_toArray, List.set_cons_zero, List.set_cons_succ]
        refine wpAnyT_done (by kernel_rfl) ?_ _
        go_wp2_with fail
        go_ret
        exact ⟨rfl, HB.out.trans (hSa.mono HB.out.size)⟩
      | true =>
        have hcm := fun W => compareD_any s ⟨1, 1⟩ W
        have hle := Hq.out rfl rfl
        obtain ⟨cv, hcv⟩ : ∃ c, c = cmpF s ⟨1, 1⟩ := ⟨_, rfl⟩
        rw [← hcv] at hcm hle
        have hcb2 : decide (cv ≤ 0) = true := decide_eq_true hle
        clear hcv
        refine wp_region_T (fun W' => RowKit.Below w8.heap.size w8 W') (fun _ => True) 99 (by kernel_rfl) (Below.refl _ _).drew trivial (fun hS hT => ?_)
        refine wpAnyT_one (j := 0) rfl (by kernel_rfl) (by kernel_rfl) (fun K hK => ?_)
        go_simp
        refine (hal _ hS).mono ?_
        rintro e wqhSa ⟨rfl, hqhSa⟩
        have hSa := hS.trans (hqhSa.mono hS.size)
        refine hK.out _ _ hSa (fun _ => trivial) ?_
        try simp only [List.getElem_toArray, List.getElem_cons_succ, List.getElem_cons_zero]
        try dsimp only
        try simp only [Act.put, List.setIfInBounds_toArray, List.set_cons_zero, List.set_cons_succ]
        refine wpAnyT_takeS (i := 1) (v := .bool true) rfl (by kernel_rfl) (by kernel_rfl) (by kernel_rfl) rfl (fun _ _ _ h => h) (Or.inl ⟨by kernel_rfl, fun _ _ => by kernel_rfl⟩) hSa (fun _ => trivial) ?_
        try simp only [List.getElem_toArray, List.getElem_cons_succ, List.getElem_cons_zero]
        try dsimp only
        try simp only [Act.put, List.setIfInBounds_toArray, List.set_cons_zero, List.set_cons_succ]
        refine wpAnyT_takeS (i := 2) (v := .bool true) rfl (by kernel_rfl) (by kernel_rfl) (by kernel_rfl) rfl (fun _ _ _ h => h) (Or.inl ⟨by kernel_rfl, fun _ _ => by kernel_rfl⟩) hSa (fun _ => trivial) ?_
        try simp only [List.getElem_toArray, List.getElem_cons_succ, List.getElem_cons_zero]
        try dsimp only
        try simp only [Act.put, List.setIfInBounds_toArray, List.set_cons_zero, List.set_cons_succ]
        refine wpAnyT_takeS (i := 3) (v := .bool false) rfl (by kernel_rfl) (by kernel_rfl) (by kernel_rfl) rfl (fun _ _ _ h => h) (Or.inl ⟨by kernel_rfl, fun W hW => by go_simp⟩) hSa (fun _ => trivial) ?_
        try simp only [List.getElem_toArray, List.getElem_cons_succ, List.getElem_cons_zero]
        try dsimp only
        try simp only [Act.put, List.setIfInBounds_toArray, List.set_cons_zero, List.set_cons_succ]
        refine wpAnyT_takeS (i := 4) (v := .bool false) rfl (by kernel_rfl) (by kernel_rfl) (by kernel_rfl) rfl (fun _ _ _ h => h) (Or.inl ⟨by kernel_rfl, fun _ _ => by kernel_rfl⟩) hSa (fun _ => trivial) ?_
        try simp only [List.getElem_toArray, List.getElem_cons_succ, List.getElem_cons_zero]
        try dsimp only
        try simp only [Act.put, List.setIfInBounds_toArray, List.set_cons_zero, List.set_cons_succ]
        refine wpAnyT_takeS (i := 5) (v := .bool true) rfl (by kernel_rfl) (by kernel_rfl) (by kernel_rfl) rfl (fun _ _ _ h => h) (Or.inl ⟨by kernel_rfl, fun _ _ => by kernel_rfl⟩) hSa (fun _ => trivial) ?_
        try simp only [List.getElem_toArray, List.getElem_cons_succ, List.getElem_cons_zero]
        try dsimp only
        try simp only [Act.put, List.setIfInBounds_toArray, List.set_cons_zero, List.set_cons_succ]
        refine wpAnyT_takeS (i := 6) (v := .bool false) rfl (by kernel_rfl) (by kernel_rfl) (by kernel_rfl) rfl (fun _ _ _ h => h) (Or.inl ⟨by kernel_rfl, fun W hW => by go_simp⟩) hSa (fun _ => trivial) ?_
        try simp only [List.getElem_toArray, List.getElem_cons_succ, List.getElem_cons_zero]
        try dsimp only
        try simp only [Act.put, List.setIfInBounds_toArray, List.set_cons_zero, List.set_cons_succ]
        refine wpAnyT_takeS (i := 7) (v := .bool false) rfl (by kernel_rfl) (by kernel_rfl) (by kernel_rfl) rfl (fun _ _ _ h => h) (Or.inl ⟨by kernel_rfl, fun W hW => by go_simp⟩) hSa (fun _ => trivial) ?_
        try simp only [List.getElem_toArray, List.getElem_cons_succ, List.getElem_cons_zero]
        try dsimp only
        try simp only [Act.put, List.setIfInBounds_toArray, List.set_cons_zero, List.set_cons_succ]
        refine wpAnyT_takeS (i := 8) (v := .bool false) rfl (by kernel_rfl) (by kernel_rfl) (by kernel_rfl) rfl (fun _ _ _ h => h) (Or.inl ⟨by kernel_rfl, fun _ _ => by kernel_rfl⟩) hSa (fun _ => trivial) ?_
        try simp only [List.getElem_toArray, List.getElem_cons_succ, List.getElem_cons_zero]
        try dsimp only
        try simp only [Act.put, List.setIfInBounds_toArray, List.set_cons_zero, List.set_cons_succ]
        refine wpAnyT_takeS (i := 9) (v := .agg (cF s).toArray) rfl (by kernel_rfl) (by kernel_rfl) (by kernel_rfl) rfl (fun _ _ _ h => h) (yields_load 25 (.tmp 15) rfl b15 (0) (by kernel_rfl) (cF s) _ (by kernel_rfl) (fun W hW => ((HF.out W hW).range 0 _ (fun j v h => by simpa using h))) Tryz.underlying25 rfl (by kernel_rfl)) hSa (fun _ => trivial) ?_
        try simp only [List.getElem_toArray, List.getElem_cons_succ, List.getElem_cons_zero]
        try dsimp only
        try simp only [Act.put, List.setIfInBounds_toArray, List.set_cons_zero, List.set_cons_succ]
        refine wpAnyT_one (j := 10) rfl (by kernel_rfl) (by kernel_rfl) (fun K hK => ?_)
        go_simp
        refine (fD_any 1 1 _).mono ?_
        rintro e wqhSb ⟨rfl, hqhSb⟩
        have hSb := hSa.trans (hqhSb.mono hSa.size)
        refine hK.out _ _ hSb (fun _ => trivial) ?_
        try simp only [List.getElem_toArray, List.getElem_cons_succ, List.getElem_cons_zero]
        try dsimp only
        try simp only [Act.put, List.setIfInBounds_toArray, List.set_cons_zero, List.set_cons_succ]
        refine wpAnyT_one (j := 11) rfl (by kernel_rfl) (by kernel_rfl) (fun K hK => ?_)
        go_simp
        refine (hcm _).mono ?_
        rintro e wqhSc ⟨rfl, hqhSc⟩
        have hSc := hSb.trans (hqhSc.mono hSb.size)
        refine hK.out _ _ hSc (fun _ => trivial) ?_
        try simp only [List.getElem_toArray, List.getElem_cons_succ, List.getElem_cons_zero]
        try dsimp only
        try simp only [Act.put, List.setIfInBounds_toArray, List.set_cons_zero, List.set_cons_succ]
        refine wpAnyT_takeS (i := 12) (v := .bool true) rfl (by kernel_rfl) (by kernel_rfl) (by kernel_rfl) rfl (fun _ _ _ h => h) (Or.inl ⟨by kernel_rfl, fun W hW => by go_simp⟩) hSc (fun _ => trivial) ?_
        try simp only [List.getElem_toArray, List.getElem_cons_succ, List.getElem_cons_zero]
        try dsimp only
        try simp only [Act.put, List.setIfInBounds_toArray, List.set_cons_zero, List.set_cons_succ]
        refine wpAnyT_takeS (i := 13) (v := .bool true) rfl (by kernel_rfl) (by kernel_rfl) (by kernel_rfl) rfl (fun _ _ _ h => h) (Or.inl ⟨by kernel_rfl, fun W hW => by go_simp⟩) hSc (fun _ => trivial) ?_
        try simp only [List.getElem_toArray, List.getElem_cons_succ, List.getElem_cons_zero]
        try dsimp only
        try simp only [Act.put, List.setIfInBounds_toArray, List.set_cons_zero, List.set_cons_succ]
        refine wpAnyT_takeS (i := 14) (v := .bool true) rfl (by kernel_rfl) (by kernel_rfl) (by kernel_rfl) rfl (fun _ _ _ h => h) (Or.inl ⟨by kernel_rfl, fun W hW => by go_simp⟩) hSc (fun _ => trivial) ?_
        try simp only [List.getElem_toArray, List.getElem_cons_succ, List.getElem_cons_zero]
        try dsimp only
        try simp only [Act.put, List.setIfInBounds_toArray, List.set_cons_zero, List.set_cons_succ]
        refine wpAnyT_takeS (i := 15) (v := .bool true) rfl (by kernel_rfl) (by kernel_rfl) (by kernel_rfl) rfl (fun _ _ _ h => h) (Or.inl ⟨by kernel_rfl, fun _ _ => by kernel_rfl⟩) hSc (fun _ => trivial) ?_
        try simp only [List.getElem_toArray, List.getElem_cons_succ, List.getElem_cons_zero]
        try dsimp only
        try simp only [Act.put, List.setIfInBounds_toArray, List.set_cons_zero, List.set_cons_succ]
        refine wpAnyT_done (by kernel_rfl) ?_ _
        go_wp2_with fail
        go_ret
        exact ⟨rfl, HB.out.trans (hSc.mono HB.out.size)⟩

end Go.Proofs.YtmeomhojbobpbaaGreatDoor
