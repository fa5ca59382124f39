import Derived.Test.YtmeomhojbobpbaaGreatDoorPart10
import Derived.Test.YtmeomhojbobpbaaGreatDoorPart03
import Derived.Test.YtmeomhojbobpbaaGreatDoorPart05
import Derived.Test.YtmeomhojbobpbaaGreatDoorPart08
import Derived.Test.YtmeomhojbobpbaaGreatDoorPart02
import Derived.Test.YtmeomhojbobpbaaGreatDoorPart07
import Derived.StillTailTactics
import Derived.Deep.RegionHeld3
/-
  Walks: the stable sort; claim.sortedBy.
-/
namespace Go.Proofs.YtmeomhojbobpbaaGreatDoor
open Go.RowKit Lg Go.Sort

theorem symMerge_any (g : Nat) (cb : Array Value) (n0 B cap n : Nat) (cf : Nat → Nat → Int) (w0 : World) (eg : ∀ args w, (callFunc g args).run Tryz.prog w = .ok (.enter g args) w) (hcmp : CmpIs g cb n0 n cf w0)
    (hB0 : n0 ≤ B) (h0 : n0 ≤ w0.heap.size) (hn : n ≤ 1000000) : ∀ f, SymAt g cb n0 B cap n cf w0 f
  | 0 => fun a m b d w hf _ _ _ h1 h2 _ => by omega
  | f + 1 => fun a m b d w hf hd hP hB h1 h2 hb => by
    subst hd
    by_cases c1 : m - a = 1
    · rw [symM, if_pos c1]
      exact sym1_any g cb n0 B cap a m b cf d w0 w eg hcmp hP hB hB0 h0 c1 h2 hb hn
    · by_cases c2 : b - m = 1
      · rw [symM, if_neg c1, if_pos c2]
        exact sym2_any g cb n0 B cap a m b cf d w0 w eg hcmp hP hB hB0 h0 h1 c1 c2 hb hn
      · exact sym3_any g cb n0 B cap a m b f cf d w0 w eg hcmp hP hB hB0 h0 h1 h2 c1 c2 hb hn hf (symMerge_any g cb n0 B cap d.size cf w0 eg hcmp hB0 h0 hn f)

theorem stA_end (lt : Nat → Nat → Bool) (n f a : Nat) (d : Array Nat) (h : ¬ a + 20 ≤ n) : stA lt n f a d = insertionSort lt d a n := by
  cases f with
  | zero => rfl
  | succ f => rw [stA, if_neg h]
theorem stM_end (lt : Nat → Nat → Bool) (n bs f a : Nat) (d : Array Nat) (h : ¬ a + 2 * bs ≤ n) (hf : n ≤ f + a) (ha : a ≤ n) : stMg lt n bs f a d = if a + bs < n then symM lt n a (a + bs) n d else d := by
  cases f with
  | zero => rw [stMg, if_neg (by omega)]
  | succ f => rw [stMg, if_neg h]
theorem stO_end (lt : Nat → Nat → Bool) (n f bs : Nat) (d : Array Nat) (h : ¬ bs < n) : stO lt n f bs d = d := by
  cases f with
  | zero => rfl
  | succ f => rw [stO, if_neg h]

set_option maxRecDepth 100000 in
set_option maxHeartbeats 6400000 in
theorem stable_any (g : Nat) (cb : Array Value) (n0 B cap : Nat) (cf : Nat → Nat → Int) (d : Array Nat) (w0 w : World) (eg : ∀ args w, (callFunc g args).run Tryz.prog w = .ok (.enter g args) w) (hcmp : CmpIs g cb n0 d.size cf w0)
    (hP : PlsD w B d) (hB : RowKit.Below n0 w0 w) (hB0 : n0 ≤ B) (h0 : n0 ≤ w0.heap.size) (hn : d.size ≤ 1000000) :
    Calls Tryz.prog 172 #[.slice (some ⟨B, 0, none⟩) d.size cap, .int .i64 d.size, .func (.func g) #[] cb] w fun e w' => e = .returned (.tuple #[]) ∧ PlsD w' B (stableS (ltC cf) d) ∧ RowKit.Below n0 w0 w' := by
  have hsym := symMerge_any g cb n0 B cap d.size cf w0 eg hcmp hB0 h0 hn d.size
  have SY := Lib.hid hsym; clear hsym
  have hins := fun (a b : Nat) (dk : Array Nat) (w' : World) (hs : dk.size = d.size) (hP' : PlsD w' B dk) (hB' : RowKit.Below n0 w0 w') (hab : a ≤ b) (hb : b ≤ d.size) => insertion_any g cb n0 B cap a b cf dk w0 w' eg (hs ▸ hcmp) hP' hB' hB0 h0 hab (hs ▸ hb) (hs ▸ hn)
  have HC := Lib.hid hcmp
  clear hcmp
  obtain ⟨fin, hfin⟩ : ∃ fin, fin = stableS (ltC cf) d := ⟨_, rfl⟩
  rw [← hfin]
  unfold stableS at hfin
  obtain ⟨n, hnn⟩ : ∃ n, n = d.size := ⟨_, rfl⟩
  rw [← hnn] at hn hfin SY hins ⊢
  have hins' : ∀ (a b : Nat) (dk : Array Nat) (w' : World), dk.size = n → PlsD w' B dk → RowKit.Below n0 w0 w' → a ≤ b → b ≤ n →
      Calls Tryz.prog 198 #[.slice (some ⟨B, 0, none⟩) n cap, .int .i64 a, .int .i64 b, .func (.func g) #[] cb] w' fun e w'' => e = .returned (.tuple #[]) ∧ PlsD w'' B (insertionSort (ltC cf) dk a b) ∧ RowKit.Below n0 w0 w'' := by
    intro a b dk w' hs hP' hB' hab hb
    have := hins a b dk w' hs hP' hB' hab hb
    rw [hs] at this
    exact this
  have INS := Lib.hid hins'; clear hins' hins
  have HN := Lib.hid hnn; clear hnn
  have Hfin := Lib.hid hfin; clear hfin
  go_enter Tryz.func172, Tryz.ntmps172
  go_wp2
  go_loopw [7, 8] (fun a b wr => ∃ (F k : Nat) (dk : Array Nat), n ≤ F + k ∧ k ≤ n ∧ a = .int .i64 k ∧ b = .int .i64 (k + 20) ∧ Hid (dk.size = n) ∧ PlsD wr B dk ∧ RowKit.Below n0 w0 wr ∧ Hid (stA (ltC cf) n F k dk = stA (ltC cf) n n 0 d)) (fun a _ _ => n - (intOf a).toNat)
  case atStart => exact ⟨n, 0, d, by omega, by omega, rfl, rfl, HN.out.symm, hP, hB, rfl⟩
  case round =>
    obtain ⟨F, k, dk, hF, hk, rfl, rfl, Hs, hPk, hBk, HA⟩ := hrel
    by_cases hlt : k + 20 ≤ n
    · have hltz : (k : Int) + 20 ≤ (n : Int) := by omega
      have hltd : decide ((k : Int) + 20 ≤ (n : Int)) = true := decide_eq_true hltz
      have hw1 : IntKind.i64.wrap ((k : Int) + 20 + 20) = (k : Int) + 20 + 20 := by rw [IntKind.wrap_i64]; omega
      obtain ⟨F, rfl⟩ : ∃ F', F = F' + 1 := ⟨F - 1, by omega⟩
      have hc := INS.out k (k + 20) dk wr Hs.out hPk hBk (by omega) hlt
      have e : ((k + 20 : Nat) : Int) = (k : Int) + 20 := by omega
      rw [e] at hc
      clear e
      go_wp2_with (fail)
      refine hc.mono ?_
      clear hc
      rintro e w2 ⟨rfl, hP2, hB2⟩
      go_wp2
      go_roundw
      case rel =>
        refine ⟨F, k + 20, insertionSort (ltC cf) dk k (k + 20), by omega, hlt, by go_num, by go_num, (by rw [insertionSort_size]; exact Hs.out : Hid _), hP2, hB2, ?_⟩
        show _ = _
        rw [← HA.out, stA, if_pos hlt]
      case measure => simp [intOf]; omega
    · have hltz : ¬ (k : Int) + 20 ≤ (n : Int) := by omega
      have hltd : decide ((k : Int) + 20 ≤ (n : Int)) = false := decide_eq_false hltz
      have hc := INS.out k n dk wr Hs.out hPk hBk hk (Nat.le_refl _)
      have e := HA.out
      rw [stA_end _ _ _ _ _ hlt] at e
      rw [e] at hc
      clear e HA
      have hz1 : (stA (ltC cf) n n 0 d).size = n := by rw [stA_size]; exact HN.out.symm
      have hfin := Hfin.out
      obtain ⟨d1, hd1⟩ : ∃ d1, d1 = stA (ltC cf) n n 0 d := ⟨_, rfl⟩
      rw [← hd1] at hc hz1 hfin
      have Hz1 := Lib.hid hz1; clear hz1
      have Hf1 := Lib.hid hfin; clear hfin
      clear hd1
      go_wp2_with (fail)
      refine hc.mono ?_
      clear hc
      rintro e w2 ⟨rfl, hP2, hB2⟩
      clear hltz hltd
      go_wp2
      go_loopw [6] (fun s wr => ∃ (F bs : Nat) (dk : Array Nat), n ≤ F + bs ∧ 20 ≤ bs ∧ bs ≤ 2000000 ∧ s = .int .i64 bs ∧ Hid (dk.size = n) ∧ PlsD wr B dk ∧ RowKit.Below n0 w0 wr ∧ Hid (stO (ltC cf) n F bs dk = fin)) (fun s _ => n - (intOf s).toNat)
      case atStart => exact ⟨n, 20, d1, by omega, by omega, by omega, rfl, Hz1, hP2, hB2, Hf1.out.symm⟩
      case round =>
        obtain ⟨F, bs, dk, hF, hbs, hbm, rfl, Hs, hPk, hBk, HO⟩ := hrel
        by_cases hlt : bs < n
        · have hltz : (bs : Int) < (n : Int) := by omega
          have hw2 : IntKind.i64.wrap (2 * (bs : Int)) = 2 * (bs : Int) := by rw [IntKind.wrap_i64]; omega
          have hw3 : IntKind.i64.wrap ((bs : Int) * 2) = (bs : Int) * 2 := by rw [IntKind.wrap_i64]; omega
          obtain ⟨F, rfl⟩ : ∃ F', F = F' + 1 := ⟨F - 1, by omega⟩
          have ho := HO.out
          rw [stO, if_pos hlt] at ho
          have HO2 := Lib.hid ho; clear ho HO
          obtain ⟨mg, hmg⟩ : ∃ mg, mg = stMg (ltC cf) n bs n 0 dk := ⟨_, rfl⟩
          rw [← hmg] at HO2
          have hzm : mg.size = n := by rw [hmg, stM_size]; exact Hs.out
          have Hzm := Lib.hid hzm; clear hzm
          have Hmg := Lib.hid hmg; clear hmg
          go_wp2
          go_loopw [7, 8] (fun a b wr => ∃ (F' k : Nat) (dj : Array Nat), n ≤ F' + k ∧ k ≤ n ∧ a = .int .i64 k ∧ b = .int .i64 (k + 2 * bs) ∧ Hid (dj.size = n) ∧ PlsD wr B dj ∧ RowKit.Below n0 w0 wr ∧ Hid (stMg (ltC cf) n bs F' k dj = mg)) (fun a _ _ => n - (intOf a).toNat)
          case atStart => exact ⟨n, 0, dk, by omega, by omega, rfl, by go_num, Hs, hPk, hBk, Hmg.out.symm⟩
          case round =>
            obtain ⟨F', k, dj, hF', hk, rfl, rfl, Hsj, hPj, hBj, HM⟩ := hrel
            by_cases hl2 : k + 2 * bs ≤ n
            · have hl2z : (k : Int) + 2 * (bs : Int) ≤ (n : Int) := by omega
              have hl2d : decide ((k : Int) + 2 * (bs : Int) ≤ (n : Int)) = true := decide_eq_true hl2z
              have hw4 : IntKind.i64.wrap ((k : Int) + (bs : Int)) = (k : Int) + (bs : Int) := by rw [IntKind.wrap_i64]; omega
              have hw5 : IntKind.i64.wrap ((k : Int) + 2 * (bs : Int) + (bs : Int) * 2) = (k : Int) + 2 * (bs : Int) + (bs : Int) * 2 := by rw [IntKind.wrap_i64]; omega
              have hw6 : IntKind.i64.wrap ((k : Int) + 2 * (bs : Int) + 2 * (bs : Int)) = (k : Int) + 2 * (bs : Int) + 2 * (bs : Int) := by rw [IntKind.wrap_i64]; omega
              obtain ⟨F', rfl⟩ : ∃ F'', F' = F'' + 1 := ⟨F' - 1, by omega⟩
              have hc := SY.out k (k + bs) (k + 2 * bs) dj wr (by omega) Hsj.out hPj hBj (by omega) (by omega) hl2
              have e1 : ((k + bs : Nat) : Int) = (k : Int) + (bs : Int) := by omega
              have e2 : ((k + 2 * bs : Nat) : Int) = (k : Int) + 2 * (bs : Int) := by omega
              rw [e1, e2] at hc
              clear e1 e2
              go_wp2_with (fail)
              refine hc.mono ?_
              clear hc
              rintro e w3 ⟨rfl, hP3, hB3⟩
              go_wp2
              go_roundw
              case rel =>
                refine ⟨F', k + 2 * bs, symM (ltC cf) n k (k + bs) (k + 2 * bs) dj, by omega, hl2, by first | rfl | go_num, by first | rfl | go_num | (congr 1; omega), (by rw [symM_size]; exact Hsj.out : Hid _), hP3, hB3, ?_⟩
                show _ = _
                rw [← HM.out, stMg, if_pos hl2]
              case measure => simp [intOf]; omega
            · have hl2z : ¬ (k : Int) + 2 * (bs : Int) ≤ (n : Int) := by omega
              have hl2d : decide ((k : Int) + 2 * (bs : Int) ≤ (n : Int)) = false := decide_eq_false hl2z
              have hw4 : IntKind.i64.wrap ((k : Int) + (bs : Int)) = (k : Int) + (bs : Int) := by rw [IntKind.wrap_i64]; omega
              have hm := HM.out
              rw [stM_end _ _ _ _ _ _ hl2 hF' hk] at hm
              by_cases hl3 : k + bs < n
              · have hl3z : (k : Int) + (bs : Int) < (n : Int) := by omega
                rw [if_pos hl3] at hm
                have hc := SY.out k (k + bs) n dj wr (by omega) Hsj.out hPj hBj (by omega) hl3 (Nat.le_refl _)
                have e1 : ((k + bs : Nat) : Int) = (k : Int) + (bs : Int) := by omega
                rw [e1, hm] at hc
                clear e1 hm
                go_wp2_with (fail)
                refine hc.mono ?_
                clear hc
                rintro e w3 ⟨rfl, hP3, hB3⟩
                go_wp2
                go_roundw
                case rel => exact ⟨F, 2 * bs, mg, by omega, by omega, by omega, by first | rfl | go_num | (congr 1; omega), Hzm, hP3, hB3, HO2⟩
                case measure => simp [intOf]; omega
              · have hl3z : ¬ (k : Int) + (bs : Int) < (n : Int) := by omega
                rw [if_neg hl3] at hm
                subst hm
                go_wp2
                go_roundw
                case rel => exact ⟨F, 2 * bs, dj, by omega, by omega, by omega, by first | rfl | go_num | (congr 1; omega), Hzm, hPj, hBj, HO2⟩
                case measure => simp [intOf]; omega
        · have hltz : ¬ (bs : Int) < (n : Int) := by omega
          have ho := HO.out
          rw [stO_end _ _ _ _ _ hlt] at ho
          subst ho
          go_wp2
          go_end0
          exact ⟨rfl, hPk, hBk⟩

set_option maxRecDepth 100000 in
theorem sortStable_any (g : Nat) (cb : Array Value) (n0 B cap : Nat) (cf : Nat → Nat → Int) (d : Array Nat) (w0 w : World) (eg : ∀ args w, (callFunc g args).run Tryz.prog w = .ok (.enter g args) w) (hcmp : CmpIs g cb n0 d.size cf w0)
    (hP : PlsD w B d) (hB : RowKit.Below n0 w0 w) (hB0 : n0 ≤ B) (h0 : n0 ≤ w0.heap.size) (hn : d.size ≤ 1000000) :
    Calls Tryz.prog 132 #[.slice (some ⟨B, 0, none⟩) d.size cap, .func (.func g) #[] cb] w fun e w' => e = .returned (.tuple #[]) ∧ PlsD w' B (stableS (ltC cf) d) ∧ RowKit.Below n0 w0 w' := by
  have hc := stable_any g cb n0 B cap cf d w0 w eg hcmp hP hB hB0 h0 hn
  generalize d.size = n at *
  generalize stableS (ltC cf) d = r at *
  clear hcmp hP hB
  go_enter Tryz.func132, Tryz.ntmps132
  go_wp2_with (fail)
  refine hc.mono ?_
  clear hc
  rintro e w2 ⟨rfl, hP2, hB2⟩
  go_wp2
  go_end0
  exact ⟨rfl, hP2, hB2⟩

end Go.Proofs.YtmeomhojbobpbaaGreatDoor

/-
  Walk: claim.sortedBy.
-/
namespace Go.Proofs.YtmeomhojbobpbaaGreatDoor
open Go.RowKit Lg Go.Sort

abbrev encN (i : Nat) : Value := .int .i64 (i : Nat)

theorem toNats (is : List Nat) : is.map encN = (is.map fun i : Nat => (i : Int)).map (Value.int .i64) := by
  rw [List.map_map]; rfl

set_option maxRecDepth 100000 in
set_option maxHeartbeats 1600000 in
theorem sortedBy_any (g : Nat) (cb : Array Value) (cf : Nat → Nat → Int) (v : Value) (is : List Nat) (base : Nat) (w : World) (eg : ∀ args w, (callFunc g args).run Tryz.prog w = .ok (.enter g args) w) (hcmp : CmpIs g cb w.heap.size is.length cf w)
    (ho : w.ownsRow base 3 1 v is.length (is.map encN)) (hlt : ∀ i ∈ is, i < is.length) (hn : is.length ≤ 1000) (h1 : 1 ≤ is.length) :
    Calls Tryz.prog 73 #[v, .func (.func g) #[] cb] w fun e w' => ∃ B cap, e = .returned (.slice (some ⟨B, 0, none⟩) is.length cap) ∧ w.heap.size ≤ B ∧ is.length ≤ cap ∧ cap ≤ maxLen ∧ PlsD w' B (stableS (ltC cf) is.toArray) ∧ RowKit.Below w.heap.size w w' := by
  obtain ⟨hl, ⟨_, h0⟩ | ⟨b, cap, cur, rfl, hbb, hheap, hnc, hcm, hcur, htk⟩⟩ := ho
  · omega
  · have hcell : ∀ j, j < (is.map fun i : Nat => (i : Int)).length → w.cell? ⟨b, 0 + j, none⟩ = some (.int .i64 ((is.map fun i : Nat => (i : Int)).getD j 0)) := fun j hj => by
      have hj' : j < is.length := by simpa using hj
      have e1 : (cur.toList.take (is.length * 1))[j]? = some (encN is[j]) := by rw [htk]; simp [hj']
      rw [List.getElem?_take_of_lt (by omega)] at e1
      have e2 : w.cell? ⟨b, j, none⟩ = cur[j]? := Blk.cell (show Blk w b cur 3 from hheap) j
      rw [Nat.zero_add, e2, ← Array.getElem?_toList, e1]
      simp [List.getD, hj']
    have hcl := Tryz.slices_Clone_int b 0 is.length cap (is.map fun i : Nat => (i : Int)) w (by simp) (by omega) hcell
    have htk2 : (is.map fun i : Nat => (i : Int)).take is.length = is.map fun i : Nat => (i : Int) := List.take_of_length_le (by simp)
    rw [htk2, ← toNats] at hcl
    have HC := Lib.hid hcmp
    have HL := Lib.hid hlt
    clear hcell hcmp hlt htk htk2 hcur hheap
    obtain ⟨n, hnn⟩ : ∃ n, n = is.length := ⟨_, rfl⟩
    rw [← hnn] at hcl hn h1 ⊢
    have HN := Lib.hid hnn; clear hnn
    clear hl hnc
    go_enter Tryz.func73, Tryz.ntmps73
    go_wp2_with (fail)
    refine hcl.mono ?_
    clear hcl
    rintro e w2 ⟨v', rfl, ho2, hnil, hB2⟩
    obtain ⟨hl2, ⟨rfl, _⟩ | ⟨B, cap2, cur2, rfl, hbb2, hheap2, hnc2, hcm2, hcur2, htk2⟩⟩ := ho2
    · exact absurd rfl hnil
    · have hP : PlsD w2 B is.toArray := by
        refine ⟨cur2, hheap2, by simp only [List.size_toArray]; rw [← HN.out]; omega, fun k hk => ?_⟩
        have hk' : k < is.length := by simpa using hk
        have e1 : (cur2.toList.take (n * 1))[k]? = some (encN is[k]) := by rw [htk2]; simp [hk']
        rw [List.getElem?_take_of_lt (by rw [HN.out]; omega)] at e1
        have e3 : is.toArray[k]! = is[k] := by simp [hk']
        rw [e3]
        refine ⟨by simp only [List.size_toArray]; exact HL.out _ (List.getElem_mem hk'), ?_⟩
        rw [← Array.getElem?_toList]; exact e1
      have hc := sortStable_any g cb w.heap.size B cap2 cf is.toArray w w2 eg (by simpa using HC.out) hP hB2 hbb2 (Nat.le_refl _) (by simp only [List.size_toArray]; rw [← HN.out]; omega)
      have e : is.toArray.size = n := by simp only [List.size_toArray]; exact HN.out.symm
      rw [e] at hc
      clear e hP hheap2 hcur2 htk2 hl2 hnil
      go_wp2_with (fail)
      refine hc.mono ?_
      clear hc
      rintro e w3 ⟨rfl, hP3, hB3⟩
      go_wp2_with (fail)
      go_ret
      exact ⟨B, cap2, rfl, hbb2, hnc2, hcm2, hP3, hB3⟩

/-! ### Nothing to sort -/
set_option maxRecDepth 100000 in
set_option maxHeartbeats 1600000 in
theorem insertion_nil (v : Value) (w : World) :
    Calls Tryz.prog 198 #[.slice none 0 0, .int .i64 0, .int .i64 0, v] w fun e w' => e = .returned (.tuple #[]) ∧ w = w' := by
  go_enter Tryz.func198, Tryz.ntmps198
  go_wp2
  go_loopw [8] (fun i wr => i = .int .i64 1 ∧ w = wr) (fun i _ => (intOf i).toNat)
  case atStart => exact ⟨by go_num, rfl⟩
  case round =>
    obtain ⟨rfl, rfl⟩ := hrel
    go_wp2
    go_end0
    exact ⟨rfl, rfl⟩

set_option maxRecDepth 100000 in
set_option maxHeartbeats 1600000 in
theorem stable_nil (v : Value) (w : World) :
    Calls Tryz.prog 172 #[.slice none 0 0, .int .i64 0, v] w fun e w' => e = .returned (.tuple #[]) ∧ w = w' := by
  go_enter Tryz.func172, Tryz.ntmps172
  go_wp2
  go_loopw [7, 8] (fun a b wr => a = .int .i64 0 ∧ b = .int .i64 20 ∧ w = wr) (fun _ _ _ => 0)
  case atStart => exact ⟨rfl, rfl, rfl⟩
  case round =>
    obtain ⟨rfl, rfl, rfl⟩ := hrel
    go_wp2_with (go_at_call 198; refine (insertion_nil _ _).mono ?_; rintro e w3 ⟨rfl, rfl⟩)
    go_loopw [6] (fun s wr => s = .int .i64 20 ∧ w = wr) (fun _ _ => 0)
    case atStart => exact ⟨rfl, rfl⟩
    case round =>
      obtain ⟨rfl, rfl⟩ := hrel
      go_wp2
      go_end0
      exact ⟨rfl, rfl⟩

set_option maxRecDepth 100000 in
theorem sortStable_nil (v : Value) (w : World) :
    Calls Tryz.prog 132 #[.slice none 0 0, v] w fun e w' => e = .returned (.tuple #[]) ∧ w = w' := by
  go_enter Tryz.func132, Tryz.ntmps132
  go_wp2_with (fail)
  refine (stable_nil _ _).mono ?_
  rintro e w2 ⟨rfl, rfl⟩
  go_wp2
  go_end0
  exact ⟨rfl, rfl⟩

set_option maxRecDepth 100000 in
theorem sortedBy_nil (v : Value) (w : World) :
    Calls Tryz.prog 73 #[.slice none 0 0, v] w fun e w' => e = .returned (.slice none 0 0) ∧ w = w' := by
  go_enter Tryz.func73, Tryz.ntmps73
  go_wp2_with (fail)
  refine (Tryz.slices_Clone_int_nil 0 0 w).mono ?_
  rintro e w2 ⟨rfl, rfl⟩
  go_wp2_with (fail)
  refine (sortStable_nil _ _).mono ?_
  rintro e w3 ⟨rfl, rfl⟩
  go_wp2_with (fail)
  go_ret
  exact ⟨rfl, rfl⟩

end Go.Proofs.YtmeomhojbobpbaaGreatDoor

/-
  Walks: the sum of fractions.
-/
namespace Go.Proofs.YtmeomhojbobpbaaGreatDoor
open Go.RowKit Lg Go.Sort Go.Shelf

theorem grown_trans {w w1 w2 : World} {r : Option Nat} (h : w.grownBy w1 r) (g : w1.grownBy w2 r) : w.grownBy w2 r :=
  ⟨g.os.trans h.os, g.tape.trans h.tape, g.output.trans h.output, Nat.le_trans h.size g.size, fun k hk hne => (g.block k (Nat.lt_of_lt_of_le hk h.size) hne).trans (h.block k hk hne)⟩
theorem grown_of_below {w w' : World} (r : Option Nat) (h : RowKit.Below w.heap.size w w') : w.grownBy w' r := ⟨h.os, h.tape, h.output, h.size, fun k hk _ => h.block k hk⟩
theorem grown_refl (w : World) (r : Option Nat) : w.grownBy w r := ⟨rfl, rfl, rfl, Nat.le_refl _, fun _ _ _ => rfl⟩

theorem setAll_F (a b : Frac) : setAll #[.int .i64 a.num, .int .i64 a.den] 0 [.int .i64 b.num, .int .i64 b.den] = #[.int .i64 b.num, .int .i64 b.den] := by kernel_rfl

set_option maxRecDepth 100000 in
set_option maxHeartbeats 1600000 in
theorem sum1_ok (a : Option Addr) (n cap : Nat) (xs : List Frac) (Bl Bs : Nat) (w : World) (hBl : Blk w Bl #[.slice a n cap] 22) (hBs : Blk w Bs #[.int .i64 0, .int .i64 1] 83)
    (hL : ∀ W', w.grownBy W' (some Bs) → Lst W' 2 cF a n cap xs) (hok : sumsOk xs) :
    Calls Tryz.prog 68 #[.pointer (some ⟨Bl, 0, none⟩), .pointer (some ⟨Bs, 0, none⟩)] w fun e w' => e = .returned (.tuple #[]) ∧ Blk w' Bs #[.int .i64 (sumFr xs).num, .int .i64 (sumFr xs).den] 83 ∧ w.grownBy w' (some Bs) := by
  have hL0 := hL w (grown_refl _ _)
  have hm : cap ≤ 9223372036854775807 := by have := hL0.max; unfold maxLen at this; omega
  have hle := hL0.le
  have hlen := Lib.hid hL0.len
  clear hL0
  have hne : Bl ≠ Bs := hBl.other hBs (by decide)
  have c0 := hBl.cell
  go_enter Tryz.func68, Tryz.ntmps68
  go_wp2
  go_loopw [6] (fun i wr => ∃ k : Nat, k ≤ n ∧ i = .int .i64 k ∧ Blk wr Bs #[.int .i64 (sumFr (xs.take k)).num, .int .i64 (sumFr (xs.take k)).den] 83 ∧ w.grownBy wr (some Bs)) (fun i _ => n - (intOf i).toNat)
  case atStart => exact ⟨0, Nat.zero_le _, rfl, hBs, grown_refl _ _⟩
  case round =>
    obtain ⟨k, hk, rfl, kS, hg⟩ := hrel
    by_cases hlt : k < n
    · obtain ⟨x, hx⟩ : ∃ x, xs[k]? = some x := ⟨xs[k]'(by rw [hlen.out]; exact hlt), by simp⟩
      have hLr := hL wr hg
      obtain ⟨b, off, rfl, hb, hr⟩ := hLr.at_ k x hx
      obtain ⟨o1, o2, o3⟩ := hok k x hx
      have htk : sumFr (xs.take (k + 1)) = sumStep (sumFr (xs.take k)) x := by
        obtain ⟨h1, h2⟩ := List.getElem?_eq_some_iff.1 hx
        unfold sumFr
        rw [List.take_succ_eq_append_getElem h1, h2, List.foldl_append]; rfl
      have Htk := Lib.hid htk
      have Hx := Lib.hid hx
      clear htk hx hLr
      generalize sumFr (xs.take k) = acc at *
      have hp := fun W => plus_ok acc x W o2 o1 o3
      have hst : sumStep acc x = normN (acc.num * x.den + x.num * acc.den) (acc.den * x.den) := rfl
      rw [← hst] at hp
      rw [hst] at Htk
      have Hst := Lib.hid hst
      rw [← hst] at Htk
      clear hst o1 o2 o3
      generalize sumStep acc x = nx at *
      have cS := kS.cell
      have hltS := kS.lt
      go_wp2_with (first
        | (refine wpList_load_mid rfl 25 _ rfl b (off + k * 2) rfl (cF x) _ hr Tryz.underlying25 rfl (by kernel_rfl) ?_)
        | fail)
      refine (hp _).mono ?_
      clear hp cS
      rintro e w3 ⟨rfl, hB3⟩
      have kS3 := (kS.alloc (.cells #[.int .i64 x.num, .int .i64 x.den] 25)).below' hB3
      have hg3 : w.grownBy w3 (some Bs) := grown_trans hg (grown_of_below _ (((Below.refl _ wr).alloc (Nat.le_refl _) _).trans (hB3.mono (by simp))))
      have c3 := kS3.cell
      have f3 := kS3.frozen
      go_wp2_with (fail)
      go_roundw
      case rel =>
        refine ⟨k + 1, by omega, by go_num, ?_, grown_trans hg3 (grownBy_setCells w3 Bs 0 [.int .i64 nx.num, .int .i64 nx.den])⟩
        rw [Htk.out]
        have h := kS3.setCells 0 [.int .i64 nx.num, .int .i64 nx.den]
        rw [setAll_F] at h
        exact h
      case measure => simp [intOf]; omega
    · obtain rfl : k = n := by omega
      rw [List.take_of_length_le (by rw [hlen.out]; exact Nat.le_refl _)] at kS
      go_wp2
      go_end0
      exact ⟨rfl, kS, hg⟩

set_option maxRecDepth 100000 in
set_option maxHeartbeats 1600000 in
theorem sum_ok (a : Option Addr) (n cap : Nat) (xs : List Frac) (w : World) (hL : Lst w 2 cF a n cap xs) (hn : n ≤ 1000) (hv : (xs.any fun f => !validF f) = false) (hok : sumsOk xs) :
    Calls Tryz.prog 15 #[.slice a n cap] w (Gives w (.tuple #[aF (sumFr xs), .int .i64 0])) := by
  have eg : ∀ args w, (callFunc 68 args).run Tryz.prog w = .ok (.enter 68 args) w := enters_of Tryz.func68 (by kernel_rfl) rfl
  have hmf : ∀ (fn : Fn) (first cap : Array Value) (w : World), (Instr.makeFunc fn first cap).run Tryz.prog w = .ok (.func fn first cap) w := fun _ _ _ _ => rfl
  have hB1 : RowKit.Below w.heap.size w ((w.alloc (.cells #[.slice a n cap] 22)).alloc (.cells #[.int .i64 0, .int .i64 0] 25)) := ((Below.refl _ w).alloc (Nat.le_refl _) _).alloc (by simp) _
  have hva := valid_any a n cap xs ((w.alloc (.cells #[.slice a n cap] 22)).alloc (.cells #[.int .i64 0, .int .i64 0] 25)) (hL.below hB1)
  rw [hv] at hva
  clear hv
  go_enter Tryz.func15, Tryz.ntmps15
  go_wp2_with (fail)
  refine hva.mono ?_
  clear hva
  rintro e w2 ⟨rfl, hB2⟩
  have k1 : Blk w2 w.heap.size #[.slice a n cap] 22 := ((Blk.new w _ _).alloc _).below' hB2
  have k2 : Blk w2 (w.heap.size + 1) #[.int .i64 0, .int .i64 0] 25 := by
    have := (Blk.new (w.alloc (.cells #[.slice a n cap] 22)) 25 #[.int .i64 0, .int .i64 0]).below' hB2
    simpa using this
  have hb2 : RowKit.Below w.heap.size w w2 := hB1.trans (hB2.mono hB1.size)
  obtain ⟨w3, hw3⟩ : ∃ w3, w3 = w2.alloc (.cells #[.int .i64 0, .int .i64 1] 83) := ⟨_, rfl⟩
  have kS : Blk w3 w2.heap.size #[.int .i64 0, .int .i64 1] 83 := hw3 ▸ Blk.new _ _ _
  have hb23 : RowKit.Below w2.heap.size w2 w3 := hw3 ▸ (Below.refl _ w2).alloc (Nat.le_refl _) _
  have k13 := k1.below' hb23
  have k23 := k2.below' hb23
  have hb3 := hb2.trans (hb23.mono hb2.size)
  have hs2 := k2.lt
  have hsS := kS.lt
  have hr := ranged_ok 68 #[.pointer (some ⟨w.heap.size, 0, none⟩), .pointer (some ⟨w2.heap.size, 0, none⟩)] eg w3 (fun w' => Blk w' w2.heap.size #[.int .i64 (sumFr xs).num, .int .i64 (sumFr xs).den] 83 ∧ (w3.alloc (.cells #[.int .i64 0] 26)).grownBy w' (some w2.heap.size)) (by
    refine (sum1_ok a n cap xs w.heap.size w2.heap.size (w3.alloc (.cells #[.int .i64 0] 26)) (k13.alloc _) (kS.alloc _) (fun W' hg => ?_) hok).mono ?_
    · refine hL.below ?_
      exact (hb3.alloc hb3.size _).grown hg (by simp; omega) (fun k e => by cases e; omega)
    · rintro e w' ⟨rfl, h1, h2⟩
      refine ⟨rfl, ?_, h1, h2⟩
      exact (Blk.new w3 _ _).kept h2 (by simp; omega))
  rw [hw3] at hr
  go_wp2_with (fail)
  refine hr.mono ?_
  clear hr
  rintro e w5 ⟨rfl, w4, ⟨kS4, hg4⟩, rfl⟩
  rw [← hw3] at hg4 ⊢
  clear hw3
  have k24 : Blk w4 (w.heap.size + 1) #[.int .i64 0, .int .i64 0] 25 := (k23.alloc (.cells #[.int .i64 0] 26)).kept hg4 (by simp; omega)
  have hb4 : RowKit.Below w.heap.size w w4 := (hb3.alloc hb3.size (.cells #[.int .i64 0] 26)).grown hg4 (by simp; omega) (fun k e => by cases e; omega)
  have hsz4 := hg4.size
  obtain ⟨w5, hw5⟩ : ∃ w5, w5 = w4.setCell ⟨w3.heap.size, 0, none⟩ (.int .i64 0) := ⟨_, rfl⟩
  rw [← hw5]
  have kS5 : Blk w5 w2.heap.size #[.int .i64 (sumFr xs).num, .int .i64 (sumFr xs).den] 83 := hw5 ▸ kS4.setCell_other (by omega) 0 _
  have k25 : Blk w5 (w.heap.size + 1) #[.int .i64 0, .int .i64 0] 25 := hw5 ▸ k24.setCell_other (by omega) 0 _
  have hb5 : RowKit.Below w.heap.size w w5 := hw5 ▸ hb4.setCell (p := ⟨w3.heap.size, 0, none⟩) (by simp; omega) _
  clear hw5 k24 kS4 k23 k13 k1 k2 kS
  have c5 := kS5.cell
  have c6 := k25.cell
  have f6 := k25.frozen
  generalize sumFr xs = sm at *
  go_wp2_with (fail)
  have hbl : Blk (w5.setCells (w.heap.size + 1) 0 (cF sm)) (w.heap.size + 1) (cF sm).toArray 25 := by
    have h := k25.setCells 0 (cF sm)
    have e : setAll #[.int .i64 0, .int .i64 0] 0 (cF sm) = (cF sm).toArray := by kernel_rfl
    rw [e] at h
    exact h
  (try simp only [Exit.inBlock, Exit.then])
  refine bodyPost_ret (results_cell_tmp rfl _ (w5.setCells (w.heap.size + 1) 0 (cF sm)) (w.heap.size + 1) 25 (cF sm) _ rfl hbl Tryz.underlying25 rfl (by kernel_rfl)) rfl ?_
  have hfin := below_setCells hb5 (show w.heap.size ≤ w.heap.size + 1 by omega) 0 (cF sm)
  exact ⟨rfl, hfin⟩

end Go.Proofs.YtmeomhojbobpbaaGreatDoor

/-
  Walks: the sum of fractions, whatever they are.
-/
namespace Go.Proofs.YtmeomhojbobpbaaGreatDoor
open Go.RowKit Lg Go.Sort Go.Shelf

set_option maxRecDepth 100000 in
set_option maxHeartbeats 800000 in
theorem plus_up (a b : Frac) (w : World) (ha : frOk a) (hb : frOk b) (hok : normOk (a.num * b.den + b.num * a.den) (a.den * b.den) = false) :
    Calls Tryz.prog 69 #[aF a, aF b] w fun e w' => e = .panicked [{ v := upV, recovered := false }] ∧ RowKit.Below w.heap.size w w' := by
  obtain ⟨a1, a2, a3, a4⟩ := ha
  obtain ⟨b1, b2, b3, b4⟩ := hb
  obtain ⟨p1, p2⟩ := mul_bound a1 a2 b3 b4
  obtain ⟨q1, q2⟩ := mul_bound b1 b2 a3 a4
  have d1 : 1 ≤ a.den * b.den := by
    calc (1 : Int) ≤ 1 * b.den := by omega
      _ ≤ a.den * b.den := Int.mul_le_mul_of_nonneg_right a3 (by omega)
  have d2 : a.den * b.den ≤ 1000000000000 := by
    calc a.den * b.den ≤ 1000000 * b.den := Int.mul_le_mul_of_nonneg_right a4 (by omega)
      _ ≤ 1000000000000 := by omega
  have hn := fun W => norm_up (a.num * b.den + b.num * a.den) (a.den * b.den) W (by omega) (by omega) (by omega) hok
  clear hok
  go_enter Tryz.func69, Tryz.ntmps69
  go_wp2_with (fail)
  refine (hn _).mono ?_
  clear hn
  rintro e w2 ⟨rfl, hB⟩
  exact ⟨rfl, rfl, ((((Below.refl _ w).alloc (Nat.le_refl _) _).alloc (by simp) _).alloc (by simp; omega) _).trans (hB.mono (by simp; omega))⟩

set_option maxRecDepth 100000 in
set_option maxHeartbeats 1600000 in
theorem sum1_up (a : Option Addr) (n cap : Nat) (xs : List Frac) (Bl Bs : Nat) (w : World) (hBl : Blk w Bl #[.slice a n cap] 22) (hBs : Blk w Bs #[.int .i64 0, .int .i64 1] 83)
    (hL : ∀ W', w.grownBy W' (some Bs) → Lst W' 2 cF a n cap xs) (q : Nat) (f : Frac) (hq : xs[q]? = some f) (hff : frOk f) (hok : sumsOk (xs.take q)) (hacc : frOk (sumFr (xs.take q)))
    (hbad : normOk ((sumFr (xs.take q)).num * f.den + f.num * (sumFr (xs.take q)).den) ((sumFr (xs.take q)).den * f.den) = false) :
    Calls Tryz.prog 68 #[.pointer (some ⟨Bl, 0, none⟩), .pointer (some ⟨Bs, 0, none⟩)] w fun e w' => e = .panicked [{ v := upV, recovered := false }] ∧ w.grownBy w' (some Bs) := by
  have hL0 := hL w (grown_refl _ _)
  have hm : cap ≤ 9223372036854775807 := by have := hL0.max; unfold maxLen at this; omega
  have hle := hL0.le
  have hqn : q < n := by rw [← hL0.len]; exact (List.getElem?_eq_some_iff.1 hq).1
  have hlen := Lib.hid hL0.len
  clear hL0
  have hne : Bl ≠ Bs := hBl.other hBs (by decide)
  have c0 := hBl.cell
  have hup := fun W => plus_up (sumFr (xs.take q)) f W hacc hff hbad
  have Hq := Lib.hid hq; clear hq hbad
  go_enter Tryz.func68, Tryz.ntmps68
  go_wp2
  go_loopw [6] (fun i wr => ∃ k : Nat, k ≤ q ∧ i = .int .i64 k ∧ Blk wr Bs #[.int .i64 (sumFr (xs.take k)).num, .int .i64 (sumFr (xs.take k)).den] 83 ∧ w.grownBy wr (some Bs)) (fun i _ => q - (intOf i).toNat)
  case atStart => exact ⟨0, Nat.zero_le _, rfl, hBs, grown_refl _ _⟩
  case round =>
    obtain ⟨k, hk, rfl, kS, hg⟩ := hrel
    have hkn : k < n := by omega
    obtain ⟨x, hx⟩ : ∃ x, xs[k]? = some x := ⟨xs[k]'(by rw [hlen.out]; exact hkn), by simp⟩
    have hLr := hL wr hg
    obtain ⟨b, off, rfl, hb, hr⟩ := hLr.at_ k x hx
    by_cases hlt : k < q
    · have hk2 : (xs.take q)[k]? = some x := by rw [List.getElem?_take_of_lt hlt]; exact hx
      obtain ⟨o1, o2, o3⟩ := hok k x hk2
      rw [List.take_take, Nat.min_eq_left (by omega)] at o2 o3
      have htk : sumFr (xs.take (k + 1)) = sumStep (sumFr (xs.take k)) x := by
        obtain ⟨h1, h2⟩ := List.getElem?_eq_some_iff.1 hx
        unfold sumFr
        rw [List.take_succ_eq_append_getElem h1, h2, List.foldl_append]; rfl
      have Htk := Lib.hid htk
      have Hx := Lib.hid hx
      clear htk hx hLr hk2 hup
      generalize sumFr (xs.take k) = acc at *
      have hp := fun W => plus_ok acc x W o2 o1 o3
      have hst : sumStep acc x = normN (acc.num * x.den + x.num * acc.den) (acc.den * x.den) := rfl
      rw [← hst] at hp
      rw [hst] at Htk
      have Hst := Lib.hid hst
      rw [← hst] at Htk
      clear hst o1 o2 o3
      generalize sumStep acc x = nx at *
      have cS := kS.cell
      have hltS := kS.lt
      go_wp2_with (first
        | (refine wpList_load_mid rfl 25 _ rfl b (off + k * 2) rfl (cF x) _ hr Tryz.underlying25 rfl (by kernel_rfl) ?_)
        | fail)
      refine (hp _).mono ?_
      clear hp cS
      rintro e w3 ⟨rfl, hB3⟩
      have kS3 := (kS.alloc (.cells #[.int .i64 x.num, .int .i64 x.den] 25)).below' hB3
      have hg3 : w.grownBy w3 (some Bs) := grown_trans hg (grown_of_below _ (((Below.refl _ wr).alloc (Nat.le_refl _) _).trans (hB3.mono (by simp))))
      have c3 := kS3.cell
      have f3 := kS3.frozen
      go_wp2_with (fail)
      go_roundw
      case rel =>
        refine ⟨k + 1, by omega, by go_num, ?_, grown_trans hg3 (grownBy_setCells w3 Bs 0 [.int .i64 nx.num, .int .i64 nx.den])⟩
        rw [Htk.out]
        have h := kS3.setCells 0 [.int .i64 nx.num, .int .i64 nx.den]
        rw [setAll_F] at h
        exact h
      case measure => simp [intOf]; omega
    · obtain rfl : k = q := by omega
      have e := Hq.out
      rw [hx] at e
      cases e
      clear hx hLr Hq
      generalize sumFr (xs.take k) = acc at *
      have cS := kS.cell
      have hltS := kS.lt
      go_wp2_with (first
        | (refine wpList_load_mid rfl 25 _ rfl b (off + k * 2) rfl (cF f) _ hr Tryz.underlying25 rfl (by kernel_rfl) ?_)
        | fail)
      refine (hup _).mono ?_
      clear hup cS
      rintro e w3 ⟨rfl, hB3⟩
      have hg3 : w.grownBy w3 (some Bs) := grown_trans hg (grown_of_below _ (((Below.refl _ wr).alloc (Nat.le_refl _) _).trans (hB3.mono (by simp))))
      exact ⟨rfl, rfl, hg3⟩

set_option maxRecDepth 100000 in
set_option maxHeartbeats 1600000 in
theorem sum_up (a : Option Addr) (n cap : Nat) (xs : List Frac) (w : World) (hL : Lst w 2 cF a n cap xs) (hn : n ≤ 1000) (hv : (xs.any fun f => !validF f) = false) (q : Nat) (f : Frac) (hq : xs[q]? = some f) (hff : frOk f) (hok : sumsOk (xs.take q)) (hacc : frOk (sumFr (xs.take q)))
    (hbad : normOk ((sumFr (xs.take q)).num * f.den + f.num * (sumFr (xs.take q)).den) ((sumFr (xs.take q)).den * f.den) = false) :
    Calls Tryz.prog 15 #[.slice a n cap] w (Gives w (.tuple #[aF ⟨0, 0⟩, .int .i64 2])) := by
  have eg : ∀ args w, (callFunc 68 args).run Tryz.prog w = .ok (.enter 68 args) w := enters_of Tryz.func68 (by kernel_rfl) rfl
  have hmf : ∀ (fn : Fn) (first cap : Array Value) (w : World), (Instr.makeFunc fn first cap).run Tryz.prog w = .ok (.func fn first cap) w := fun _ _ _ _ => rfl
  have hB1 : RowKit.Below w.heap.size w ((w.alloc (.cells #[.slice a n cap] 22)).alloc (.cells #[.int .i64 0, .int .i64 0] 25)) := ((Below.refl _ w).alloc (Nat.le_refl _) _).alloc (by simp) _
  have hva := valid_any a n cap xs ((w.alloc (.cells #[.slice a n cap] 22)).alloc (.cells #[.int .i64 0, .int .i64 0] 25)) (hL.below hB1)
  rw [hv] at hva
  clear hv
  go_enter Tryz.func15, Tryz.ntmps15
  go_wp2_with (fail)
  refine hva.mono ?_
  clear hva
  rintro e w2 ⟨rfl, hB2⟩
  have k1 : Blk w2 w.heap.size #[.slice a n cap] 22 := ((Blk.new w _ _).alloc _).below' hB2
  have k2 : Blk w2 (w.heap.size + 1) #[.int .i64 0, .int .i64 0] 25 := by
    have := (Blk.new (w.alloc (.cells #[.slice a n cap] 22)) 25 #[.int .i64 0, .int .i64 0]).below' hB2
    simpa using this
  have hb2 : RowKit.Below w.heap.size w w2 := hB1.trans (hB2.mono hB1.size)
  obtain ⟨w3, hw3⟩ : ∃ w3, w3 = w2.alloc (.cells #[.int .i64 0, .int .i64 1] 83) := ⟨_, rfl⟩
  have kS : Blk w3 w2.heap.size #[.int .i64 0, .int .i64 1] 83 := hw3 ▸ Blk.new _ _ _
  have hb23 : RowKit.Below w2.heap.size w2 w3 := hw3 ▸ (Below.refl _ w2).alloc (Nat.le_refl _) _
  have k13 := k1.below' hb23
  have k23 := k2.below' hb23
  have hb3 := hb2.trans (hb23.mono hb2.size)
  have hs2 := k2.lt
  have hsS := kS.lt
  have hr := ranged_up 68 #[.pointer (some ⟨w.heap.size, 0, none⟩), .pointer (some ⟨w2.heap.size, 0, none⟩)] eg w3 (fun w' => (w3.alloc (.cells #[.int .i64 0] 26)).grownBy w' (some w2.heap.size)) (by
    refine (sum1_up a n cap xs w.heap.size w2.heap.size (w3.alloc (.cells #[.int .i64 0] 26)) (k13.alloc _) (kS.alloc _) (fun W' hg => ?_) q f hq hff hok hacc hbad).mono ?_
    · refine hL.below ?_
      exact (hb3.alloc hb3.size _).grown hg (by simp; omega) (fun k e => by cases e; omega)
    · rintro e w' ⟨rfl, h2⟩
      refine ⟨rfl, ?_, h2⟩
      exact (Blk.new w3 _ _).kept h2 (by simp; omega))
  rw [hw3] at hr
  go_wp2_with (fail)
  refine hr.mono ?_
  clear hr
  rintro e w5 ⟨rfl, w4, hg4, rfl⟩
  rw [← hw3] at hg4 ⊢
  clear hw3
  have k24 : Blk w4 (w.heap.size + 1) #[.int .i64 0, .int .i64 0] 25 := (k23.alloc (.cells #[.int .i64 0] 26)).kept hg4 (by simp; omega)
  have hb4 : RowKit.Below w.heap.size w w4 := (hb3.alloc hb3.size (.cells #[.int .i64 0] 26)).grown hg4 (by simp; omega) (fun k e => by cases e; omega)
  have hsz4 := hg4.size
  obtain ⟨w5, hw5⟩ : ∃ w5, w5 = (w4.alloc (.cells #[] 149)).setCell ⟨w3.heap.size, 0, none⟩ (.int .i64 2) := ⟨_, rfl⟩
  rw [← hw5]
  have k25 : Blk w5 (w.heap.size + 1) #[.int .i64 0, .int .i64 0] 25 := hw5 ▸ (k24.alloc _).setCell_other (by omega) 0 _
  have hb5 : RowKit.Below w.heap.size w w5 := hw5 ▸ (hb4.alloc hb4.size _).setCell (p := ⟨w3.heap.size, 0, none⟩) (by simp; omega) _
  clear hw5 k24 k23 k13 k1 k2 kS
  have c6 := k25.cell
  have f6 := k25.frozen
  go_wp2_with (fail)
  have hbl : Blk (w5.setCells (w.heap.size + 1) 0 (cF ⟨0, 0⟩)) (w.heap.size + 1) (cF ⟨0, 0⟩).toArray 25 := by
    have h := k25.setCells 0 (cF ⟨0, 0⟩)
    have e : setAll #[.int .i64 0, .int .i64 0] 0 (cF ⟨0, 0⟩) = (cF ⟨0, 0⟩).toArray := by kernel_rfl
    rw [e] at h
    exact h
  (try simp only [Exit.inBlock, Exit.then])
  first
    | (refine bodyPost_ret (results_cell_tmp rfl _ (w5.setCells (w.heap.size + 1) 0 (cF ⟨0, 0⟩)) (w.heap.size + 1) 25 (cF ⟨0, 0⟩) _ rfl hbl Tryz.underlying25 rfl (by kernel_rfl)) rfl ?_
       exact ⟨rfl, below_setCells hb5 (show w.heap.size ≤ w.heap.size + 1 by omega) 0 (cF ⟨0, 0⟩)⟩)
    | (refine bodyPost_ret (results_cell_tmp rfl _ w5 (w.heap.size + 1) 25 (cF ⟨0, 0⟩) _ rfl k25 Tryz.underlying25 rfl (by kernel_rfl)) rfl ?_
       exact ⟨rfl, hb5⟩)

set_option maxRecDepth 100000 in
set_option maxHeartbeats 1600000 in
theorem sum_any (a : Option Addr) (n cap : Nat) (xs : List Frac) (w : World) (hL : Lst w 2 cF a n cap xs) :
    Calls Tryz.prog 15 #[.slice a n cap] w (Gives w (.tuple #[aF (sumOf xs).1, .int .i64 (sumOf xs).2])) := by
  by_cases h1 : 1000 < xs.length
  · have e : sumOf xs = (⟨0, 0⟩, 2) := by unfold sumOf; rw [if_pos h1]
    rw [e]
    rw [hL.len] at h1
    have h1z : (1000 : Int) < (n : Int) := by omega
    clear e hL
    obtain ⟨w2, hw2⟩ : ∃ w2, w2 = (w.alloc (.cells #[.slice a n cap] 22)).alloc (.cells #[.int .i64 0, .int .i64 0] 25) := ⟨_, rfl⟩
    have k2 : Blk w2 (w.heap.size + 1) #[.int .i64 0, .int .i64 0] 25 := by
      have := Blk.new (w.alloc (.cells #[.slice a n cap] 22)) 25 #[.int .i64 0, .int .i64 0]
      rw [hw2]; simpa using this
    have hb2 : RowKit.Below w.heap.size w w2 := hw2 ▸ ((Below.refl _ w).alloc (Nat.le_refl _) _).alloc (by simp) _
    go_enter Tryz.func15, Tryz.ntmps15
    go_wp2_with (fail)
    (try simp only [Exit.inBlock, Exit.then])
    first
      | (rw [← hw2]
         refine bodyPost_ret (results_cell_tmp rfl _ w2 (w.heap.size + 1) 25 (cF ⟨0, 0⟩) _ rfl k2 Tryz.underlying25 rfl (by kernel_rfl)) rfl ?_
         exact ⟨rfl, hb2⟩)
  · by_cases h2 : (xs.any fun f => !validF f) = true
    · have e : sumOf xs = (⟨0, 0⟩, 1) := by unfold sumOf; rw [if_neg h1, if_pos h2]
      rw [e]
      have h1z : ¬ (1000 : Int) < (n : Int) := by have := hL.len; omega
      have hB1 : RowKit.Below w.heap.size w ((w.alloc (.cells #[.slice a n cap] 22)).alloc (.cells #[.int .i64 0, .int .i64 0] 25)) := ((Below.refl _ w).alloc (Nat.le_refl _) _).alloc (by simp) _
      have hva := valid_any a n cap xs ((w.alloc (.cells #[.slice a n cap] 22)).alloc (.cells #[.int .i64 0, .int .i64 0] 25)) (hL.below hB1)
      rw [h2] at hva
      clear e h2 hL h1
      go_enter Tryz.func15, Tryz.ntmps15
      go_wp2_with (fail)
      refine hva.mono ?_
      clear hva
      rintro e w2 ⟨rfl, hB2⟩
      have k2 : Blk w2 (w.heap.size + 1) #[.int .i64 0, .int .i64 0] 25 := by
        have := (Blk.new (w.alloc (.cells #[.slice a n cap] 22)) 25 #[.int .i64 0, .int .i64 0]).below' hB2
        simpa using this
      have hb2 : RowKit.Below w.heap.size w w2 := hB1.trans (hB2.mono hB1.size)
      have c6 := k2.cell
      have f6 := k2.frozen
      go_wp2_with (fail)
      (try simp only [Exit.inBlock, Exit.then])
      have hbl : Blk (w2.setCells (w.heap.size + 1) 0 (cF ⟨0, 0⟩)) (w.heap.size + 1) (cF ⟨0, 0⟩).toArray 25 := by
        have h := k2.setCells 0 (cF ⟨0, 0⟩)
        have e : setAll #[.int .i64 0, .int .i64 0] 0 (cF ⟨0, 0⟩) = (cF ⟨0, 0⟩).toArray := by kernel_rfl
        rw [e] at h
        exact h
      first
        | (refine bodyPost_ret (results_cell_tmp rfl _ (w2.setCells (w.heap.size + 1) 0 (cF ⟨0, 0⟩)) (w.heap.size + 1) 25 (cF ⟨0, 0⟩) _ rfl hbl Tryz.underlying25 rfl (by kernel_rfl)) rfl ?_
           exact ⟨rfl, below_setCells hb2 (show w.heap.size ≤ w.heap.size + 1 by omega) 0 (cF ⟨0, 0⟩)⟩)
        | (refine bodyPost_ret (results_cell_tmp rfl _ w2 (w.heap.size + 1) 25 (cF ⟨0, 0⟩) _ rfl k2 Tryz.underlying25 rfl (by kernel_rfl)) rfl ?_
           exact ⟨rfl, hb2⟩)
    · have hv : (xs.any fun f => !validF f) = false := by simpa using h2
      have hall : ∀ f ∈ xs, frOk f := fun f hf => by
        have := List.any_eq_false.1 hv f hf
        exact validF_ok (by simpa using this)
      have e : sumOf xs = sumGo ⟨0, 1⟩ xs := by unfold sumOf; rw [if_neg h1, if_neg h2]
      rw [e]
      have hn : n ≤ 1000 := by have := hL.len; omega
      rcases sumGo_cases xs hall with ⟨s1, s2, _⟩ | ⟨k, f, s1, s2, s3, s4, s5⟩
      · rw [s2]; exact sum_ok a n cap xs w hL hn hv s1
      · rw [s5]; exact sum_up a n cap xs w hL hn hv k f s1 (hall f (List.mem_iff_getElem?.2 ⟨k, s1⟩)) s2 s3 s4

end Go.Proofs.YtmeomhojbobpbaaGreatDoor

/-
  Walks: what is cut off of a part; the comparison of two of them.
-/
namespace Go.Proofs.YtmeomhojbobpbaaGreatDoor
open Go.RowKit Lg Go.Sort Go.Shelf

set_option maxRecDepth 100000 in
set_option maxHeartbeats 1600000 in
theorem cut_any (Bt Bp : Nat) (total : Int) (a : Option Addr) (n cap : Nat) (xs : List Frac) (i : Nat) (x : Frac) (w : World) (hBt : Blk w Bt #[.int .i64 total] 3) (hBp : Blk w Bp #[.slice a n cap] 22)
    (hL : Lst w 2 cF a n cap xs) (hx : xs[i]? = some x) (ht : 0 ≤ total ∧ total ≤ 1000000000) (h0 : 0 ≤ x.num ∧ x.num ≤ x.den) (hb : 1 ≤ x.den ∧ x.den ≤ 1000000) :
    Calls Tryz.prog 72 #[.int .i64 i, .pointer (some ⟨Bt, 0, none⟩), .pointer (some ⟨Bp, 0, none⟩)] w (Gives w (aF ⟨(total * x.num) % x.den, x.den⟩)) := by
  have hm : cap ≤ 9223372036854775807 := by have := hL.max; unfold maxLen at this; omega
  have hle := hL.le
  have hi : i < n := by rw [← hL.len]; exact (List.getElem?_eq_some_iff.1 hx).1
  obtain ⟨b, off, rfl, hbl, hr⟩ := hL.at_ i x hx
  obtain ⟨b3, b4⟩ := hb
  obtain ⟨h0, h02⟩ := h0
  obtain ⟨t1, t2⟩ := ht
  have p1 : 0 ≤ total * x.num := Int.mul_nonneg t1 h0
  have p2 : total * x.num ≤ 1000000000000000 := by
    calc total * x.num ≤ 1000000000 * x.num := Int.mul_le_mul_of_nonneg_right t2 h0
      _ ≤ 1000000000000000 := by omega
  have hw1 : IntKind.i64.wrap (total * x.num) = total * x.num := by rw [IntKind.wrap_i64]; omega
  have hmod : 0 ≤ (total * x.num) % x.den ∧ (total * x.num) % x.den < x.den := ⟨Int.emod_nonneg _ (by omega), Int.emod_lt_of_pos _ (by omega)⟩
  have htm : (total * x.num).tmod x.den = (total * x.num) % x.den := Int.tmod_eq_emod_of_nonneg p1
  have hw2 : IntKind.i64.wrap ((total * x.num) % x.den) = (total * x.num) % x.den := by rw [IntKind.wrap_i64]; omega
  have hd0 : (x.den == 0) = false := by simp; omega
  have hd1 : x.den ≠ 0 := by omega
  have l1 := show w.cell? ⟨b, off + i * 2, none⟩ = some (.int .i64 x.num) from hr 0 _ rfl
  have l2 := show w.cell? ⟨b, off + i * 2 + 1, none⟩ = some (.int .i64 x.den) from hr 1 _ rfl
  clear hr hL
  go_enter Tryz.func72, Tryz.ntmps72
  go_wp2_with (fail)
  obtain ⟨w1, hw⟩ : ∃ w1, w1 = w.alloc (.cells #[.int .i64 0, .int .i64 0] 25) := ⟨_, rfl⟩
  rw [← hw]
  have c1 : w1.cell? ⟨b, off + i * 2, none⟩ = some (.int .i64 x.num) := hw ▸ cell_allocs l1 _
  have c2 : w1.cell? ⟨b, off + i * 2 + 1, none⟩ = some (.int .i64 x.den) := hw ▸ cell_allocs l2 _
  have c3 : w1.cell? ⟨Bt, 0, none⟩ = some (.int .i64 total) := hw ▸ (hBt.alloc _).cell 0
  have c4 : w1.cell? ⟨Bp, 0, none⟩ = some (.slice (some ⟨b, off, none⟩) n cap) := hw ▸ (hBp.alloc _).cell 0
  have k5 : Blk w1 w.heap.size #[.int .i64 0, .int .i64 0] 25 := hw ▸ Blk.new _ _ _
  have hb1 : RowKit.Below w.heap.size w w1 := hw ▸ (Below.refl _ w).alloc (Nat.le_refl _) _
  clear hw l1 l2 hBt hBp
  go_still_tail 18, (by kernel_rfl)
  change wpList _ _ _ _ _ w1.drew
  have c5 := k5.cell
  have f5 := k5.frozen
  go_wp2_with (fail)
  refine bodyPost_ret (results_cell_row rfl _ _ w.heap.size 25 _ _ _ rfl (((k5.setCell 0 _).setCell 1 _).drew) Tryz.underlying25 rfl (by kernel_rfl)) rfl ⟨rfl, ((hb1.setCell (p := ⟨w.heap.size, 0, none⟩) (Nat.le_refl _) _).setCell (p := ⟨w.heap.size, 1, none⟩) (Nat.le_refl _) _).drew⟩

end Go.Proofs.YtmeomhojbobpbaaGreatDoor
