import Derived.Test.YtkeppoiomjhkpaaGreatDoorPart25
import Derived.Test.YtkeppoiomjhkpaaGreatDoorPart07
import Derived.Test.YtkeppoiomjhkpaaGreatDoorPart09
import Derived.Test.YtkeppoiomjhkpaaGreatDoorPart01
import Derived.Test.YtkeppoiomjhkpaaGreatDoorPart24
import Derived.Lib.Small
/-
  Walks: the stable sort; claim.sortedBy.
-/
namespace Go.Proofs.YtkeppoiomjhkpaaGreatDoor
open Go.RowKit Lg Go.Sort

theorem symMerge_any (g : Nat) (cb : Array Value) (n0 B cap n : Nat) (cf : Nat → Nat → Int) (w0 : World) (eg : ∀ args w, (callFunc g args).run Tryz.prog w = .ok (.enter g args) w) (hcmp : CmpIs g cb n0 n cf w0)
    (hB0 : n0 ≤ B) (h0 : n0 ≤ w0.heap.size) (hn : n ≤ 1000000) : ∀ f, SymAt g cb n0 B cap n cf w0 f
  | 0 => fun a m b d w hf _ _ _ h1 h2 _ => by omega
  | f + 1 => fun a m b d w hf hd hP hB h1 h2 hb => by
    subst hd
    by_cases c1 : m - a = 1
    · rw [symM, if_pos c1]
      exact sym1_any g cb n0 B cap a m b cf d w0 w eg hcmp hP hB hB0 h0 c1 h2 hb hn
    · by_cases c2 : b - m = 1
      · rw [symM, if_neg c1, if_pos c2]
        exact sym2_any g cb n0 B cap a m b cf d w0 w eg hcmp hP hB hB0 h0 h1 c1 c2 hb hn
      · exact sym3_any g cb n0 B cap a m b f cf d w0 w eg hcmp hP hB hB0 h0 h1 h2 c1 c2 hb hn hf (symMerge_any g cb n0 B cap d.size cf w0 eg hcmp hB0 h0 hn f)

theorem stA_end (lt : Nat → Nat → Bool) (n f a : Nat) (d : Array Nat) (h : ¬ a + 20 ≤ n) : stA lt n f a d = insertionSort lt d a n := by
  cases f with
  | zero => rfl
  | succ f => rw [stA, if_neg h]
theorem stM_end (lt : Nat → Nat → Bool) (n bs f a : Nat) (d : Array Nat) (h : ¬ a + 2 * bs ≤ n) (hf : n ≤ f + a) (ha : a ≤ n) : stMg lt n bs f a d = if a + bs < n then symM lt n a (a + bs) n d else d := by
  cases f with
  | zero => rw [stMg, if_neg (by omega)]
  | succ f => rw [stMg, if_neg h]
theorem stO_end (lt : Nat → Nat → Bool) (n f bs : Nat) (d : Array Nat) (h : ¬ bs < n) : stO lt n f bs d = d := by
  cases f with
  | zero => rfl
  | succ f => rw [stO, if_neg h]

set_option maxRecDepth 100000 in
set_option maxHeartbeats 6400000 in
theorem stable_any (g : Nat) (cb : Array Value) (n0 B cap : Nat) (cf : Nat → Nat → Int) (d : Array Nat) (w0 w : World) (eg : ∀ args w, (callFunc g args).run Tryz.prog w = .ok (.enter g args) w) (hcmp : CmpIs g cb n0 d.size cf w0)
    (hP : PlsD w B d) (hB : RowKit.Below n0 w0 w) (hB0 : n0 ≤ B) (h0 : n0 ≤ w0.heap.size) (hn : d.size ≤ 1000000) :
    Calls Tryz.prog 175 #[.slice (some ⟨B, 0, none⟩) d.size cap, .int .i64 d.size, .func (.func g) #[] cb] w fun e w' => e = .returned (.tuple #[]) ∧ PlsD w' B (stableS (ltC cf) d) ∧ RowKit.Below n0 w0 w' := by
  have hsym := symMerge_any g cb n0 B cap d.size cf w0 eg hcmp hB0 h0 hn d.size
  have SY := Lib.hid hsym; clear hsym
  have hins := fun (a b : Nat) (dk : Array Nat) (w' : World) (hs : dk.size = d.size) (hP' : PlsD w' B dk) (hB' : RowKit.Below n0 w0 w') (hab : a ≤ b) (hb : b ≤ d.size) => insertion_any g cb n0 B cap a b cf dk w0 w' eg (hs ▸ hcmp) hP' hB' hB0 h0 hab (hs ▸ hb) (hs ▸ hn)
  have HC := Lib.hid hcmp
  clear hcmp
  obtain ⟨fin, hfin⟩ : ∃ fin, fin = stableS (ltC cf) d := ⟨_, rfl⟩
  rw [← hfin]
  unfold stableS at hfin
  obtain ⟨n, hnn⟩ : ∃ n, n = d.size := ⟨_, rfl⟩
  rw [← hnn] at hn hfin SY hins ⊢
  have hins' : ∀ (a b : Nat) (dk : Array Nat) (w' : World), dk.size = n → PlsD w' B dk → RowKit.Below n0 w0 w' → a ≤ b → b ≤ n →
      Calls Tryz.prog 195 #[.slice (some ⟨B, 0, none⟩) n cap, .int .i64 a, .int .i64 b, .func (.func g) #[] cb] w' fun e w'' => e = .returned (.tuple #[]) ∧ PlsD w'' B (insertionSort (ltC cf) dk a b) ∧ RowKit.Below n0 w0 w'' := by
    intro a b dk w' hs hP' hB' hab hb
    have := hins a b dk w' hs hP' hB' hab hb
    rw [hs] at this
    exact this
  have INS := Lib.hid hins'; clear hins' hins
  have HN := Lib.hid hnn; clear hnn
  have Hfin := Lib.hid hfin; clear hfin
  go_enter Tryz.func175, Tryz.ntmps175
  go_wp2
  go_loopw [7, 8] (fun a b wr => ∃ (F k : Nat) (dk : Array Nat), n ≤ F + k ∧ k ≤ n ∧ a = .int .i64 k ∧ b = .int .i64 (k + 20) ∧ Hid (dk.size = n) ∧ PlsD wr B dk ∧ RowKit.Below n0 w0 wr ∧ Hid (stA (ltC cf) n F k dk = stA (ltC cf) n n 0 d)) (fun a _ _ => n - (intOf a).toNat)
  case atStart => exact ⟨n, 0, d, by omega, by omega, rfl, rfl, HN.out.symm, hP, hB, rfl⟩
  case round =>
    obtain ⟨F, k, dk, hF, hk, rfl, rfl, Hs, hPk, hBk, HA⟩ := hrel
    by_cases hlt : k + 20 ≤ n
    · have hltz : (k : Int) + 20 ≤ (n : Int) := by omega
      have hltd : decide ((k : Int) + 20 ≤ (n : Int)) = true := decide_eq_true hltz
      have hw1 : IntKind.i64.wrap ((k : Int) + 20 + 20) = (k : Int) + 20 + 20 := by rw [IntKind.wrap_i64]; omega
      obtain ⟨F, rfl⟩ : ∃ F', F = F' + 1 := ⟨F - 1, by omega⟩
      have hc := INS.out k (k + 20) dk wr Hs.out hPk hBk (by omega) hlt
      have e : ((k + 20 : Nat) : Int) = (k : Int) + 20 := by omega
      rw [e] at hc
      clear e
      go_wp2_with (fail)
      refine hc.mono ?_
      clear hc
      rintro e w2 ⟨rfl, hP2, hB2⟩
      go_wp2
      go_roundw
      case rel =>
        refine ⟨F, k + 20, insertionSort (ltC cf) dk k (k + 20), by omega, hlt, by go_num, by go_num, (by rw [insertionSort_size]; exact Hs.out : Hid _), hP2, hB2, ?_⟩
        show _ = _
        rw [← HA.out, stA, if_pos hlt]
      case measure => simp [intOf]; omega
    · have hltz : ¬ (k : Int) + 20 ≤ (n : Int) := by omega
      have hltd : decide ((k : Int) + 20 ≤ (n : Int)) = false := decide_eq_false hltz
      have hc := INS.out k n dk wr Hs.out hPk hBk hk (Nat.le_refl _)
      have e := HA.out
      rw [stA_end _ _ _ _ _ hlt] at e
      rw [e] at hc
      clear e HA
      have hz1 : (stA (ltC cf) n n 0 d).size = n := by rw [stA_size]; exact HN.out.symm
      have hfin := Hfin.out
      obtain ⟨d1, hd1⟩ : ∃ d1, d1 = stA (ltC cf) n n 0 d := ⟨_, rfl⟩
      rw [← hd1] at hc hz1 hfin
      have Hz1 := Lib.hid hz1; clear hz1
      have Hf1 := Lib.hid hfin; clear hfin
      clear hd1
      go_wp2_with (fail)
      refine hc.mono ?_
      clear hc
      rintro e w2 ⟨rfl, hP2, hB2⟩
      clear hltz hltd
      go_wp2
      go_loopw [6] (fun s wr => ∃ (F bs : Nat) (dk : Array Nat), n ≤ F + bs ∧ 20 ≤ bs ∧ bs ≤ 2000000 ∧ s = .int .i64 bs ∧ Hid (dk.size = n) ∧ PlsD wr B dk ∧ RowKit.Below n0 w0 wr ∧ Hid (stO (ltC cf) n F bs dk = fin)) (fun s _ => n - (intOf s).toNat)
      case atStart => exact ⟨n, 20, d1, by omega, by omega, by omega, rfl, Hz1, hP2, hB2, Hf1.out.symm⟩
      case round =>
        obtain ⟨F, bs, dk, hF, hbs, hbm, rfl, Hs, hPk, hBk, HO⟩ := hrel
        by_cases hlt : bs < n
        · have hltz : (bs : Int) < (n : Int) := by omega
          have hw2 : IntKind.i64.wrap (2 * (bs : Int)) = 2 * (bs : Int) := by rw [IntKind.wrap_i64]; omega
          have hw3 : IntKind.i64.wrap ((bs : Int) * 2) = (bs : Int) * 2 := by rw [IntKind.wrap_i64]; omega
          obtain ⟨F, rfl⟩ : ∃ F', F = F' + 1 := ⟨F - 1, by omega⟩
          have ho := HO.out
          rw [stO, if_pos hlt] at ho
          have HO2 := Lib.hid ho; clear ho HO
          obtain ⟨mg, hmg⟩ : ∃ mg, mg = stMg (ltC cf) n bs n 0 dk := ⟨_, rfl⟩
          rw [← hmg] at HO2
          have hzm : mg.size = n := by rw [hmg, stM_size]; exact Hs.out
          have Hzm := Lib.hid hzm; clear hzm
          have Hmg := Lib.hid hmg; clear hmg
          go_wp2
          go_loopw [7, 8] (fun a b wr => ∃ (F' k : Nat) (dj : Array Nat), n ≤ F' + k ∧ k ≤ n ∧ a = .int .i64 k ∧ b = .int .i64 (k + 2 * bs) ∧ Hid (dj.size = n) ∧ PlsD wr B dj ∧ RowKit.Below n0 w0 wr ∧ Hid (stMg (ltC cf) n bs F' k dj = mg)) (fun a _ _ => n - (intOf a).toNat)
          case atStart => exact ⟨n, 0, dk, by omega, by omega, rfl, by go_num, Hs, hPk, hBk, Hmg.out.symm⟩
          case round =>
            obtain ⟨F', k, dj, hF', hk, rfl, rfl, Hsj, hPj, hBj, HM⟩ := hrel
            by_cases hl2 : k + 2 * bs ≤ n
            · have hl2z : (k : Int) + 2 * (bs : Int) ≤ (n : Int) := by omega
              have hl2d : decide ((k : Int) + 2 * (bs : Int) ≤ (n : Int)) = true := decide_eq_true hl2z
              have hw4 : IntKind.i64.wrap ((k : Int) + (bs : Int)) = (k : Int) + (bs : Int) := by rw [IntKind.wrap_i64]; omega
              have hw5 : IntKind.i64.wrap ((k : Int) + 2 * (bs : Int) + (bs : Int) * 2) = (k : Int) + 2 * (bs : Int) + (bs : Int) * 2 := by rw [IntKind.wrap_i64]; omega
              have hw6 : IntKind.i64.wrap ((k : Int) + 2 * (bs : Int) + 2 * (bs : Int)) = (k : Int) + 2 * (bs : Int) + 2 * (bs : Int) := by rw [IntKind.wrap_i64]; omega
              obtain ⟨F', rfl⟩ : ∃ F'', F' = F'' + 1 := ⟨F' - 1, by omega⟩
              have hc := SY.out k (k + bs) (k + 2 * bs) dj wr (by omega) Hsj.out hPj hBj (by omega) (by omega) hl2
              have e1 : ((k + bs : Nat) : Int) = (k : Int) + (bs : Int) := by omega
              have e2 : ((k + 2 * bs : Nat) : Int) = (k : Int) + 2 * (bs : Int) := by omega
              rw [e1, e2] at hc
              clear e1 e2
              go_wp2_with (fail)
              refine hc.mono ?_
              clear hc
              rintro e w3 ⟨rfl, hP3, hB3⟩
              go_wp2
              go_roundw
              case rel =>
                refine ⟨F', k + 2 * bs, symM (ltC cf) n k (k + bs) (k + 2 * bs) dj, by omega, hl2, by first | rfl | go_num, by first | rfl | go_num | (congr 1; omega), (by rw [symM_size]; exact Hsj.out : Hid _), hP3, hB3, ?_⟩
                show _ = _
                rw [← HM.out, stMg, if_pos hl2]
              case measure => simp [intOf]; omega
            · have hl2z : ¬ (k : Int) + 2 * (bs : Int) ≤ (n : Int) := by omega
              have hl2d : decide ((k : Int) + 2 * (bs : Int) ≤ (n : Int)) = false := decide_eq_false hl2z
              have hw4 : IntKind.i64.wrap ((k : Int) + (bs : Int)) = (k : Int) + (bs : Int) := by rw [IntKind.wrap_i64]; omega
              have hm := HM.out
              rw [stM_end _ _ _ _ _ _ hl2 hF' hk] at hm
              by_cases hl3 : k + bs < n
              · have hl3z : (k : Int) + (bs : Int) < (n : Int) := by omega
                rw [if_pos hl3] at hm
                have hc := SY.out k (k + bs) n dj wr (by omega) Hsj.out hPj hBj (by omega) hl3 (Nat.le_refl _)
                have e1 : ((k + bs : Nat) : Int) = (k : Int) + (bs : Int) := by omega
                rw [e1, hm] at hc
                clear e1 hm
                go_wp2_with (fail)
                refine hc.mono ?_
                clear hc
                rintro e w3 ⟨rfl, hP3, hB3⟩
                go_wp2
                go_roundw
                case rel => exact ⟨F, 2 * bs, mg, by omega, by omega, by omega, by first | rfl | go_num | (congr 1; omega), Hzm, hP3, hB3, HO2⟩
                case measure => simp [intOf]; omega
              · have hl3z : ¬ (k : Int) + (bs : Int) < (n : Int) := by omega
                rw [if_neg hl3] at hm
                subst hm
                go_wp2
                go_roundw
                case rel => exact ⟨F, 2 * bs, dj, by omega, by omega, by omega, by first | rfl | go_num | (congr 1; omega), Hzm, hPj, hBj, HO2⟩
                case measure => simp [intOf]; omega
        · have hltz : ¬ (bs : Int) < (n : Int) := by omega
          have ho := HO.out
          rw [stO_end _ _ _ _ _ hlt] at ho
          subst ho
          go_wp2
          go_end0
          exact ⟨rfl, hPk, hBk⟩

set_option maxRecDepth 100000 in
theorem sortStable_any (g : Nat) (cb : Array Value) (n0 B cap : Nat) (cf : Nat → Nat → Int) (d : Array Nat) (w0 w : World) (eg : ∀ args w, (callFunc g args).run Tryz.prog w = .ok (.enter g args) w) (hcmp : CmpIs g cb n0 d.size cf w0)
    (hP : PlsD w B d) (hB : RowKit.Below n0 w0 w) (hB0 : n0 ≤ B) (h0 : n0 ≤ w0.heap.size) (hn : d.size ≤ 1000000) :
    Calls Tryz.prog 143 #[.slice (some ⟨B, 0, none⟩) d.size cap, .func (.func g) #[] cb] w fun e w' => e = .returned (.tuple #[]) ∧ PlsD w' B (stableS (ltC cf) d) ∧ RowKit.Below n0 w0 w' := by
  have hc := stable_any g cb n0 B cap cf d w0 w eg hcmp hP hB hB0 h0 hn
  generalize d.size = n at *
  generalize stableS (ltC cf) d = r at *
  clear hcmp hP hB
  go_enter Tryz.func143, Tryz.ntmps143
  go_wp2_with (fail)
  refine hc.mono ?_
  clear hc
  rintro e w2 ⟨rfl, hP2, hB2⟩
  go_wp2
  go_end0
  exact ⟨rfl, hP2, hB2⟩

end Go.Proofs.YtkeppoiomjhkpaaGreatDoor

/-
  Walk: claim.sortedBy.
-/
namespace Go.Proofs.YtkeppoiomjhkpaaGreatDoor
open Go.RowKit Lg Go.Sort

abbrev encN (i : Nat) : Value := .int .i64 (i : Nat)

theorem toNats (is : List Nat) : is.map encN = (is.map fun i : Nat => (i : Int)).map (Value.int .i64) := by
  rw [List.map_map]; rfl

set_option maxRecDepth 100000 in
set_option maxHeartbeats 1600000 in
theorem sortedBy_any (g : Nat) (cb : Array Value) (cf : Nat → Nat → Int) (v : Value) (is : List Nat) (base : Nat) (w : World) (eg : ∀ args w, (callFunc g args).run Tryz.prog w = .ok (.enter g args) w) (hcmp : CmpIs g cb w.heap.size is.length cf w)
    (ho : w.ownsRow base 3 1 v is.length (is.map encN)) (hlt : ∀ i ∈ is, i < is.length) (hn : is.length ≤ 1000) (h1 : 1 ≤ is.length) :
    Calls Tryz.prog 107 #[v, .func (.func g) #[] cb] w fun e w' => ∃ B cap, e = .returned (.slice (some ⟨B, 0, none⟩) is.length cap) ∧ w.heap.size ≤ B ∧ is.length ≤ cap ∧ cap ≤ maxLen ∧ PlsD w' B (stableS (ltC cf) is.toArray) ∧ RowKit.Below w.heap.size w w' := by
  obtain ⟨hl, ⟨_, h0⟩ | ⟨b, cap, cur, rfl, hbb, hheap, hnc, hcm, hcur, htk⟩⟩ := ho
  · omega
  · have hcell : ∀ j, j < (is.map fun i : Nat => (i : Int)).length → w.cell? ⟨b, 0 + j, none⟩ = some (.int .i64 ((is.map fun i : Nat => (i : Int)).getD j 0)) := fun j hj => by
      have hj' : j < is.length := by simpa using hj
      have e1 : (cur.toList.take (is.length * 1))[j]? = some (encN is[j]) := by rw [htk]; simp [hj']
      rw [List.getElem?_take_of_lt (by omega)] at e1
      have e2 : w.cell? ⟨b, j, none⟩ = cur[j]? := Blk.cell (show Blk w b cur 3 from hheap) j
      rw [Nat.zero_add, e2, ← Array.getElem?_toList, e1]
      simp [List.getD, hj']
    have hcl := Tryz.slices_Clone_int b 0 is.length cap (is.map fun i : Nat => (i : Int)) w (by simp) (by omega) hcell
    have htk2 : (is.map fun i : Nat => (i : Int)).take is.length = is.map fun i : Nat => (i : Int) := List.take_of_length_le (by simp)
    rw [htk2, ← toNats] at hcl
    have HC := Lib.hid hcmp
    have HL := Lib.hid hlt
    clear hcell hcmp hlt htk htk2 hcur hheap
    obtain ⟨n, hnn⟩ : ∃ n, n = is.length := ⟨_, rfl⟩
    rw [← hnn] at hcl hn h1 ⊢
    have HN := Lib.hid hnn; clear hnn
    clear hl hnc
    go_enter Tryz.func107, Tryz.ntmps107
    go_wp2_with (fail)
    refine hcl.mono ?_
    clear hcl
    rintro e w2 ⟨v', rfl, ho2, hnil, hB2⟩
    obtain ⟨hl2, ⟨rfl, _⟩ | ⟨B, cap2, cur2, rfl, hbb2, hheap2, hnc2, hcm2, hcur2, htk2⟩⟩ := ho2
    · exact absurd rfl hnil
    · have hP : PlsD w2 B is.toArray := by
        refine ⟨cur2, hheap2, by simp only [List.size_toArray]; rw [← HN.out]; omega, fun k hk => ?_⟩
        have hk' : k < is.length := by simpa using hk
        have e1 : (cur2.toList.take (n * 1))[k]? = some (encN is[k]) := by rw [htk2]; simp [hk']
        rw [List.getElem?_take_of_lt (by rw [HN.out]; omega)] at e1
        have e3 : is.toArray[k]! = is[k] := by simp [hk']
        rw [e3]
        refine ⟨by simp only [List.size_toArray]; exact HL.out _ (List.getElem_mem hk'), ?_⟩
        rw [← Array.getElem?_toList]; exact e1
      have hc := sortStable_any g cb w.heap.size B cap2 cf is.toArray w w2 eg (by simpa using HC.out) hP hB2 hbb2 (Nat.le_refl _) (by simp only [List.size_toArray]; rw [← HN.out]; omega)
      have e : is.toArray.size = n := by simp only [List.size_toArray]; exact HN.out.symm
      rw [e] at hc
      clear e hP hheap2 hcur2 htk2 hl2 hnil
      go_wp2_with (fail)
      refine hc.mono ?_
      clear hc
      rintro e w3 ⟨rfl, hP3, hB3⟩
      go_wp2_with (fail)
      go_ret
      exact ⟨B, cap2, rfl, hbb2, hnc2, hcm2, hP3, hB3⟩

/-! ### Nothing to sort -/
set_option maxRecDepth 100000 in
set_option maxHeartbeats 1600000 in
theorem insertion_nil (v : Value) (w : World) :
    Calls Tryz.prog 195 #[.slice none 0 0, .int .i64 0, .int .i64 0, v] w fun e w' => e = .returned (.tuple #[]) ∧ w = w' := by
  go_enter Tryz.func195, Tryz.ntmps195
  go_wp2
  go_loopw [8] (fun i wr => i = .int .i64 1 ∧ w = wr) (fun i _ => (intOf i).toNat)
  case atStart => exact ⟨by go_num, rfl⟩
  case round =>
    obtain ⟨rfl, rfl⟩ := hrel
    go_wp2
    go_end0
    exact ⟨rfl, rfl⟩

set_option maxRecDepth 100000 in
set_option maxHeartbeats 1600000 in
theorem stable_nil (v : Value) (w : World) :
    Calls Tryz.prog 175 #[.slice none 0 0, .int .i64 0, v] w fun e w' => e = .returned (.tuple #[]) ∧ w = w' := by
  go_enter Tryz.func175, Tryz.ntmps175
  go_wp2
  go_loopw [7, 8] (fun a b wr => a = .int .i64 0 ∧ b = .int .i64 20 ∧ w = wr) (fun _ _ _ => 0)
  case atStart => exact ⟨rfl, rfl, rfl⟩
  case round =>
    obtain ⟨rfl, rfl, rfl⟩ := hrel
    go_wp2_with (go_at_call 195; refine (insertion_nil _ _).mono ?_; rintro e w3 ⟨rfl, rfl⟩)
    go_loopw [6] (fun s wr => s = .int .i64 20 ∧ w = wr) (fun _ _ => 0)
    case atStart => exact ⟨rfl, rfl⟩
    case round =>
      obtain ⟨rfl, rfl⟩ := hrel
      go_wp2
      go_end0
      exact ⟨rfl, rfl⟩

set_option maxRecDepth 100000 in
theorem sortStable_nil (v : Value) (w : World) :
    Calls Tryz.prog 143 #[.slice none 0 0, v] w fun e w' => e = .returned (.tuple #[]) ∧ w = w' := by
  go_enter Tryz.func143, Tryz.ntmps143
  go_wp2_with (fail)
  refine (stable_nil _ _).mono ?_
  rintro e w2 ⟨rfl, rfl⟩
  go_wp2
  go_end0
  exact ⟨rfl, rfl⟩

set_option maxRecDepth 100000 in
theorem sortedBy_nil (v : Value) (w : World) :
    Calls Tryz.prog 107 #[.slice none 0 0, v] w fun e w' => e = .returned (.slice none 0 0) ∧ w = w' := by
  go_enter Tryz.func107, Tryz.ntmps107
  go_wp2_with (fail)
  refine (Tryz.slices_Clone_int_nil 0 0 w).mono ?_
  rintro e w2 ⟨rfl, rfl⟩
  go_wp2_with (fail)
  refine (sortStable_nil _ _).mono ?_
  rintro e w3 ⟨rfl, rfl⟩
  go_wp2_with (fail)
  go_ret
  exact ⟨rfl, rfl⟩

end Go.Proofs.YtkeppoiomjhkpaaGreatDoor

/-
  Plain functions: sums of fractions with their errors; how pence are split.
-/
namespace Lg
open Go

def sumGo (acc : Frac) : List Frac → Frac × Int
  | [] => (acc, 0)
  | f :: r => if normOk (acc.num * f.den + f.num * acc.den) (acc.den * f.den) = true then sumGo (sumStep acc f) r else (⟨0, 0⟩, 2)

def sumOf (l : List Frac) : Frac × Int :=
  if 1000 < l.length then (⟨0, 0⟩, 2) else if (l.any fun f => !validF f) = true then (⟨0, 0⟩, 1) else sumGo ⟨0, 1⟩ l

theorem normN_val (num den : Int) (hd : 0 < den) : (normN num den).num * den = num * (normN num den).den ∧ 1 ≤ (normN num den).den := by
  have hg : 0 < Int.gcd num den := gcd_pos_of_den (by omega)
  have hD : normD num den = (Int.gcd num den : Int) := by unfold normD; rw [if_neg (by omega)]
  unfold normN
  rw [hD]
  obtain ⟨x, hx⟩ := Int.gcd_dvd_left num den
  obtain ⟨y, hy⟩ := Int.gcd_dvd_right num den
  have hg' : (Int.gcd num den : Int) ≠ 0 := by omega
  have hgp : (0 : Int) < (Int.gcd num den : Int) := by omega
  dsimp only
  have e1 : num.tdiv (Int.gcd num den : Int) = x := by
    conv => lhs; arg 1; rw [hx]
    exact Int.mul_tdiv_cancel_left x hg'
  have e2 : den.tdiv (Int.gcd num den : Int) = y := by
    conv => lhs; arg 1; rw [hy]
    exact Int.mul_tdiv_cancel_left y hg'
  rw [e1, e2]
  generalize (Int.gcd num den : Int) = g at *
  constructor
  · rw [hx, hy]
    rw [← Int.mul_assoc, Int.mul_comm x g]
  · by_cases h : 1 ≤ y
    · exact h
    · exfalso
      have : g * y ≤ 0 := Int.mul_nonpos_of_nonneg_of_nonpos (by omega) (by omega)
      omega

theorem frOk_step {acc f : Frac} (ha : frOk acc) (hf : frOk f) (h : normOk (acc.num * f.den + f.num * acc.den) (acc.den * f.den) = true) : frOk (sumStep acc f) := by
  have hd : 0 < acc.den * f.den := Int.mul_pos (by have := ha.2.2.1; omega) (by have := hf.2.2.1; omega)
  have h1 := (normN_val (acc.num * f.den + f.num * acc.den) (acc.den * f.den) hd).2
  unfold normOk at h
  rw [Bool.and_eq_true, inn_iff, decide_eq_true_eq] at h
  exact ⟨h.1.1, h.1.2, h1, h.2⟩

theorem validF_ok {f : Frac} (h : validF f = true) : frOk f := by
  unfold validF at h
  simp only [Bool.and_eq_true, inn_iff] at h
  exact ⟨h.1.2.1, h.1.2.2, h.1.1.1, h.1.1.2⟩

/-- Either no step of the sum is out of range, or there is a first one that is. -/
theorem sumGo_cases (l : List Frac) (hv : ∀ f ∈ l, frOk f) :
    (sumsOk l ∧ sumGo ⟨0, 1⟩ l = (sumFr l, 0) ∧ frOk (sumFr l)) ∨
    ∃ k f, l[k]? = some f ∧ sumsOk (l.take k) ∧ frOk (sumFr (l.take k)) ∧ normOk ((sumFr (l.take k)).num * f.den + f.num * (sumFr (l.take k)).den) ((sumFr (l.take k)).den * f.den) = false ∧ sumGo ⟨0, 1⟩ l = (⟨0, 0⟩, 2) := by
  have key : ∀ j, j ≤ l.length → (sumsOk (l.take j) ∧ sumGo ⟨0, 1⟩ l = sumGo (sumFr (l.take j)) (l.drop j) ∧ frOk (sumFr (l.take j))) ∨
      ∃ k f, l[k]? = some f ∧ sumsOk (l.take k) ∧ frOk (sumFr (l.take k)) ∧ normOk ((sumFr (l.take k)).num * f.den + f.num * (sumFr (l.take k)).den) ((sumFr (l.take k)).den * f.den) = false ∧ sumGo ⟨0, 1⟩ l = (⟨0, 0⟩, 2) := by
    intro j
    induction j with
    | zero =>
      intro _
      left
      refine ⟨fun k f h => by simp at h, rfl, ?_⟩
      show frOk ⟨0, 1⟩
      unfold frOk; dsimp only; omega
    | succ j ih =>
      intro hj
      rcases ih (by omega) with ⟨h1, h2, h3⟩ | h
      · have hx : l[j]? = some l[j] := by simp
        have hf := hv l[j] (List.getElem_mem _)
        have hdr : l.drop j = l[j] :: l.drop (j + 1) := List.drop_eq_getElem_cons (by omega)
        rw [hdr, sumGo] at h2
        by_cases hok : normOk ((sumFr (l.take j)).num * l[j].den + l[j].num * (sumFr (l.take j)).den) ((sumFr (l.take j)).den * l[j].den) = true
        · rw [if_pos hok] at h2
          left
          have htk : sumFr (l.take (j + 1)) = sumStep (sumFr (l.take j)) l[j] := by
            unfold sumFr
            rw [List.take_succ_eq_append_getElem (by omega), List.foldl_append]; rfl
          rw [htk]
          refine ⟨fun k f hk => ?_, h2, frOk_step h3 hf hok⟩
          have hkl := (List.getElem?_eq_some_iff.1 hk).1
          rw [List.length_take] at hkl
          rw [List.getElem?_take_of_lt (by omega)] at hk
          rw [List.take_take, Nat.min_eq_left (by omega)]
          by_cases e : k = j
          · subst e
            rw [hx] at hk
            cases hk
            exact ⟨hf, h3, hok⟩
          · have := h1 k f (by rw [List.getElem?_take_of_lt (by omega)]; exact hk)
            rw [List.take_take, Nat.min_eq_left (by omega)] at this
            exact this
        · rw [if_neg hok] at h2
          right
          exact ⟨j, l[j], hx, h1, h3, by simpa using hok, h2⟩
      · exact Or.inr h
  rcases key l.length (Nat.le_refl _) with ⟨h1, h2, h3⟩ | h
  · left
    rw [List.take_length] at h1 h2 h3
    rw [List.drop_length] at h2
    exact ⟨h1, h2, h3⟩
  · exact Or.inr h

/-! ### Split -/
def splitFine (total : Int) (l : List Frac) : Bool := inn total 0 1000000000 && l.all fun f => validF f && decide (0 ≤ f.num) && decide (f.num ≤ f.den)
def baseF (total : Int) (f : Frac) : Int := (total * f.num).tdiv f.den
def baseSum (total : Int) : List Frac → Int
  | [] => 0
  | f :: r => baseF total f + baseSum total r
def cutN (total : Int) (f : Frac) : Int := total * f.num % f.den
def cmpP (total : Int) (l : List Frac) (i j : Nat) : Int :=
  Lib.compareInt (cutN total (l.getD j ⟨0, 1⟩) * (l.getD i ⟨0, 1⟩).den) (cutN total (l.getD i ⟨0, 1⟩) * (l.getD j ⟨0, 1⟩).den)
def splitOrder (total : Int) (l : List Frac) : Array Nat := stableS (ltC (cmpP total l)) (List.range l.length).toArray
def incr : List Int → List Nat → List Int
  | l, [] => l
  | l, i :: r => incr (l.set i (l.getD i 0 + 1)) r
def splitLeft (total : Int) (l : List Frac) : Int := (total * (sumFr l).num).tdiv (sumFr l).den - baseSum total l
def splitOf (total : Int) (l : List Frac) : List Int × Int :=
  if 41 < l.length then ([], 2) else if splitFine total l = false then ([], 1) else if (sumOf l).2 ≠ 0 then ([], (sumOf l).2) else if (sumOf l).1.den < (sumOf l).1.num then ([], 51)
  else (incr (l.map (baseF total)) ((splitOrder total l).toList.take (splitLeft total l).toNat), 0)

theorem baseSum_append (total : Int) (a b : List Frac) : baseSum total (a ++ b) = baseSum total a + baseSum total b := by
  induction a with
  | nil => rw [List.nil_append, baseSum]; omega
  | cons x r ih => rw [List.cons_append, baseSum, baseSum, ih]; omega

theorem baseF_bd {total : Int} {f : Frac} (h0 : 0 ≤ total) (hf : frOk f) (hn : 0 ≤ f.num) : 0 ≤ baseF total f ∧ baseF total f * f.den ≤ total * f.num ∧ total * f.num ≤ (baseF total f + 1) * f.den := by
  have h1 : 0 ≤ total * f.num := Int.mul_nonneg h0 hn
  have hd : 0 < f.den := by have := hf.2.2.1; omega
  unfold baseF
  rw [Int.tdiv_eq_ediv_of_nonneg h1]
  refine ⟨Int.ediv_nonneg h1 (by omega), Int.ediv_mul_le _ (by omega), ?_⟩
  have := Int.lt_ediv_add_one_mul_self (total * f.num) hd
  omega

theorem baseF_le {total : Int} {f : Frac} (h0 : 0 ≤ total) (hf : frOk f) (hn : 0 ≤ f.num) (hd : f.num ≤ f.den) : baseF total f ≤ total := by
  obtain ⟨_, h1, _⟩ := baseF_bd h0 hf hn
  have h2 : total * f.num ≤ total * f.den := Int.mul_le_mul_of_nonneg_left hd h0
  exact Int.le_of_mul_le_mul_right (Int.le_trans h1 h2) (by have := hf.2.2.1; omega)

theorem split_inv {total : Int} (h0 : 0 ≤ total) (l : List Frac) (hf : ∀ f ∈ l, frOk f ∧ 0 ≤ f.num) (_hs : sumsOk l) : ∀ k, k ≤ l.length →
    baseSum total (l.take k) * (sumFr (l.take k)).den ≤ total * (sumFr (l.take k)).num ∧ total * (sumFr (l.take k)).num ≤ (baseSum total (l.take k) + k) * (sumFr (l.take k)).den ∧ 1 ≤ (sumFr (l.take k)).den ∧ 0 ≤ (sumFr (l.take k)).num := by
  intro k
  induction k with
  | zero =>
    intro _
    show baseSum total [] * 1 ≤ total * 0 ∧ total * 0 ≤ (baseSum total [] + (0 : Nat)) * 1 ∧ (1 : Int) ≤ 1 ∧ (0 : Int) ≤ 0
    simp [baseSum]
  | succ k ih =>
    intro hk
    obtain ⟨i1, i2, i3, i4⟩ := ih (by omega)
    have hx : l[k]? = some l[k] := by simp
    obtain ⟨f1, f2⟩ := hf l[k] (List.getElem_mem _)
    obtain ⟨b1, b2, b3⟩ := baseF_bd h0 f1 f2
    have htk : l.take (k + 1) = l.take k ++ [l[k]] := List.take_succ_eq_append_getElem (by omega)
    have hsf : sumFr (l.take (k + 1)) = sumStep (sumFr (l.take k)) l[k] := by
      unfold sumFr; rw [htk, List.foldl_append]; rfl
    have hbs : baseSum total (l.take (k + 1)) = baseSum total (l.take k) + baseF total l[k] := by
      rw [htk, baseSum_append]; simp [baseSum]
    rw [hsf, hbs]
    clear hsf hbs htk hx
    generalize l[k] = f at *
    generalize sumFr (l.take k) = a at *
    generalize baseSum total (l.take k) = S at *
    generalize baseF total f = b at *
    have hfd : 1 ≤ f.den := f1.2.2.1
    have hD : 0 < a.den * f.den := Int.mul_pos (by omega) (by omega)
    obtain ⟨n1, n2⟩ := normN_val (a.num * f.den + f.num * a.den) (a.den * f.den) hD
    have e : sumStep a f = normN (a.num * f.den + f.num * a.den) (a.den * f.den) := rfl
    rw [← e] at n1 n2
    generalize sumStep a f = c at *
    clear e
    have c1 : (S * a.den) * f.den ≤ (total * a.num) * f.den := Int.mul_le_mul_of_nonneg_right i1 (by omega)
    have c2 : (b * f.den) * a.den ≤ (total * f.num) * a.den := Int.mul_le_mul_of_nonneg_right b2 (by omega)
    have c3 : (total * a.num) * f.den ≤ ((S + k) * a.den) * f.den := Int.mul_le_mul_of_nonneg_right i2 (by omega)
    have c4 : (total * f.num) * a.den ≤ ((b + 1) * f.den) * a.den := Int.mul_le_mul_of_nonneg_right b3 (by omega)
    have s1 : (S * a.den) * f.den = S * (a.den * f.den) := Int.mul_assoc _ _ _
    have s2 : (b * f.den) * a.den = b * (a.den * f.den) := by rw [Int.mul_assoc, Int.mul_comm f.den]
    have s3 : ((S + k) * a.den) * f.den = (S + k) * (a.den * f.den) := Int.mul_assoc _ _ _
    have s4 : ((b + 1) * f.den) * a.den = (b + 1) * (a.den * f.den) := by rw [Int.mul_assoc, Int.mul_comm f.den]
    have s5 : total * (a.num * f.den + f.num * a.den) = (total * a.num) * f.den + (total * f.num) * a.den := by rw [Int.mul_add, ← Int.mul_assoc, ← Int.mul_assoc]
    generalize a.den * f.den = D at *
    have t1 : (S + b) * D ≤ total * (a.num * f.den + f.num * a.den) := by rw [s5, Int.add_mul]; omega
    have t2 : total * (a.num * f.den + f.num * a.den) ≤ (S + b + (k + 1 : Nat)) * D := by
      have e : (S + b + (k + 1 : Nat)) * D = (S + k) * D + (b + 1) * D := by rw [← Int.add_mul]; congr 1; omega
      rw [s5, e]; omega
    have hN : 0 ≤ a.num * f.den + f.num * a.den := Int.add_nonneg (Int.mul_nonneg i4 (by omega)) (Int.mul_nonneg f2 (by omega))
    generalize a.num * f.den + f.num * a.den = N at *
    have u1 : ((S + b) * c.den) * D ≤ (total * c.num) * D := by
      have e1 : ((S + b) * c.den) * D = ((S + b) * D) * c.den := by rw [Int.mul_assoc, Int.mul_comm c.den, ← Int.mul_assoc]
      have e2 : (total * c.num) * D = (total * N) * c.den := by rw [Int.mul_assoc, n1, ← Int.mul_assoc]
      rw [e1, e2]
      exact Int.mul_le_mul_of_nonneg_right t1 (by omega)
    have u2 : (total * c.num) * D ≤ ((S + b + (k + 1 : Nat)) * c.den) * D := by
      have e1 : ((S + b + (k + 1 : Nat)) * c.den) * D = ((S + b + (k + 1 : Nat)) * D) * c.den := by rw [Int.mul_assoc, Int.mul_comm c.den, ← Int.mul_assoc]
      have e2 : (total * c.num) * D = (total * N) * c.den := by rw [Int.mul_assoc, n1, ← Int.mul_assoc]
      rw [e1, e2]
      exact Int.mul_le_mul_of_nonneg_right t2 (by omega)
    refine ⟨Int.le_of_mul_le_mul_right u1 hD, Int.le_of_mul_le_mul_right u2 hD, n2, ?_⟩
    have u3 : 0 ≤ c.num * D := by rw [n1]; exact Int.mul_nonneg hN (by omega)
    by_cases h : 0 ≤ c.num
    · exact h
    · exfalso
      have := Int.mul_neg_of_neg_of_pos (show c.num < 0 by omega) hD
      omega

theorem fine_all {total : Int} {l : List Frac} (h : splitFine total l = true) : 0 ≤ total ∧ total ≤ 1000000000 ∧ ∀ f ∈ l, validF f = true ∧ frOk f ∧ 0 ≤ f.num ∧ f.num ≤ f.den := by
  unfold splitFine at h
  rw [Bool.and_eq_true, inn_iff, List.all_eq_true] at h
  refine ⟨h.1.1, h.1.2, fun f hf => ?_⟩
  have := h.2 f hf
  rw [Bool.and_eq_true, Bool.and_eq_true, decide_eq_true_eq, decide_eq_true_eq] at this
  exact ⟨this.1.1, validF_ok this.1.1, this.1.2, this.2⟩

theorem splitLeft_bd {total : Int} {l : List Frac} (h : splitFine total l = true) (hs : sumsOk l) : 0 ≤ splitLeft total l ∧ splitLeft total l ≤ l.length ∧ 1 ≤ (sumFr l).den ∧ 0 ≤ (sumFr l).num ∧ 0 ≤ baseSum total l := by
  obtain ⟨h1, h2, h3⟩ := fine_all h
  have hi := split_inv h1 l (fun f hf => ⟨(h3 f hf).2.1, (h3 f hf).2.2.1⟩) hs l.length (Nat.le_refl _)
  rw [List.take_length] at hi
  obtain ⟨i1, i2, i3, i4⟩ := hi
  have hn : 0 ≤ total * (sumFr l).num := Int.mul_nonneg h1 i4
  have hb : 0 ≤ baseSum total l := by
    clear i1 i2 i3 i4 hn hs h
    induction l with
    | nil => exact Int.le_refl _
    | cons f r ih =>
      have a1 := (h3 f List.mem_cons_self)
      have a2 := (baseF_bd h1 a1.2.1 a1.2.2.1).1
      have a3 := ih (fun g hg => h3 g (List.mem_cons_of_mem _ hg))
      rw [baseSum]; omega
  unfold splitLeft
  rw [Int.tdiv_eq_ediv_of_nonneg hn]
  have j1 : baseSum total l ≤ total * (sumFr l).num / (sumFr l).den := (Int.le_ediv_iff_mul_le (by omega)).2 i1
  have j2 : total * (sumFr l).num / (sumFr l).den ≤ baseSum total l + l.length := by
    have := Int.ediv_le_ediv (show 0 < (sumFr l).den by omega) i2
    rw [Int.mul_ediv_cancel _ (by omega)] at this
    exact this
  exact ⟨by omega, by omega, i3, i4, hb⟩

theorem baseSum_bd {total : Int} (h0 : 0 ≤ total) (h1 : total ≤ 1000000000) (l : List Frac) (h : ∀ f ∈ l, frOk f ∧ 0 ≤ f.num ∧ f.num ≤ f.den) : 0 ≤ baseSum total l ∧ baseSum total l ≤ 1000000000 * l.length := by
  induction l with
  | nil => simp [baseSum]
  | cons f r ih =>
    obtain ⟨a1, a2, a3⟩ := h f List.mem_cons_self
    have b1 := (baseF_bd h0 a1 a2).1
    have b2 := baseF_le h0 a1 a2 a3
    have b3 := ih (fun g hg => h g (List.mem_cons_of_mem _ hg))
    rw [baseSum, List.length_cons]
    omega

theorem incr_length (l : List Int) (is : List Nat) : (incr l is).length = l.length := by
  induction is generalizing l with
  | nil => rfl
  | cons i r ih => rw [incr, ih, List.length_set]

theorem incr_snoc (l : List Int) (is : List Nat) (i : Nat) : incr l (is ++ [i]) = (incr l is).set i ((incr l is).getD i 0 + 1) := by
  induction is generalizing l with
  | nil => rfl
  | cons j r ih => rw [List.cons_append, incr, incr, ih]

theorem incr_bound (l : List Int) (is : List Nat) (M : Int) (h : ∀ v ∈ l, 0 ≤ v ∧ v ≤ M) (hM : 0 ≤ M) : ∀ v ∈ incr l is, 0 ≤ v ∧ v ≤ M + is.length := by
  induction is generalizing l M with
  | nil => intro v hv; have := h v hv; simp; omega
  | cons i r ih =>
    intro v hv
    have hg : 0 ≤ l.getD i 0 ∧ l.getD i 0 ≤ M := by
      by_cases hi : i < l.length
      · have := h l[i] (List.getElem_mem hi)
        simpa [List.getD, hi] using this
      · simp [List.getD, hi]; omega
    have h2 : ∀ v ∈ l.set i (l.getD i 0 + 1), 0 ≤ v ∧ v ≤ M + 1 := fun v hv => by
      rcases List.mem_or_eq_of_mem_set hv with h' | h'
      · have := h v h'; omega
      · omega
    have := ih (l.set i (l.getD i 0 + 1)) (M + 1) h2 (by omega) v hv
    rw [List.length_cons]
    omega

end Lg
