import Derived.Test.YtollegoajlfdiaaGreatPart03
import Derived.Test.YtollegoajlfdiaaGreatPart04
import Derived.BigQuiet
import Derived.Test.YtollegoajlfdiaaGreatPart01
import Derived.Recover
/-
  Walks: the stable sort; claim.sortedBy.
-/
namespace Go.Proofs.YtollegoajlfdiaaGreat
open Go.RowKit Lg Go.Sort

theorem symMerge_any (g : Nat) (cb : Array Value) (n0 B cap n : Nat) (cf : Nat → Nat → Int) (w0 : World) (eg : ∀ args w, (callFunc g args).run Tryz.prog w = .ok (.enter g args) w) (hcmp : CmpIs g cb n0 n cf w0)
    (hB0 : n0 ≤ B) (h0 : n0 ≤ w0.heap.size) (hn : n ≤ 1000000) : ∀ f, SymAt g cb n0 B cap n cf w0 f
  | 0 => fun a m b d w hf _ _ _ h1 h2 _ => by omega
  | f + 1 => fun a m b d w hf hd hP hB h1 h2 hb => by
    subst hd
    by_cases c1 : m - a = 1
    · rw [symM, if_pos c1]
      exact sym1_any g cb n0 B cap a m b cf d w0 w eg hcmp hP hB hB0 h0 c1 h2 hb hn
    · by_cases c2 : b - m = 1
      · rw [symM, if_neg c1, if_pos c2]
        exact sym2_any g cb n0 B cap a m b cf d w0 w eg hcmp hP hB hB0 h0 h1 c1 c2 hb hn
      · exact sym3_any g cb n0 B cap a m b f cf d w0 w eg hcmp hP hB hB0 h0 h1 h2 c1 c2 hb hn hf (symMerge_any g cb n0 B cap d.size cf w0 eg hcmp hB0 h0 hn f)

theorem stA_end (lt : Nat → Nat → Bool) (n f a : Nat) (d : Array Nat) (h : ¬ a + 20 ≤ n) : stA lt n f a d = insertionSort lt d a n := by
  cases f with
  | zero => rfl
  | succ f => rw [stA, if_neg h]
theorem stM_end (lt : Nat → Nat → Bool) (n bs f a : Nat) (d : Array Nat) (h : ¬ a + 2 * bs ≤ n) (hf : n ≤ f + a) (ha : a ≤ n) : stMg lt n bs f a d = if a + bs < n then symM lt n a (a + bs) n d else d := by
  cases f with
  | zero => rw [stMg, if_neg (by omega)]
  | succ f => rw [stMg, if_neg h]
theorem stO_end (lt : Nat → Nat → Bool) (n f bs : Nat) (d : Array Nat) (h : ¬ bs < n) : stO lt n f bs d = d := by
  cases f with
  | zero => rfl
  | succ f => rw [stO, if_neg h]

set_option maxRecDepth 100000 in
set_option maxHeartbeats 6400000 in
theorem stable_any (g : Nat) (cb : Array Value) (n0 B cap : Nat) (cf : Nat → Nat → Int) (d : Array Nat) (w0 w : World) (eg : ∀ args w, (callFunc g args).run Tryz.prog w = .ok (.enter g args) w) (hcmp : CmpIs g cb n0 d.size cf w0)
    (hP : PlsD w B d) (hB : RowKit.Below n0 w0 w) (hB0 : n0 ≤ B) (h0 : n0 ≤ w0.heap.size) (hn : d.size ≤ 1000000) :
    Calls Tryz.prog 176 #[.slice (some ⟨B, 0, none⟩) d.size cap, .int .i64 d.size, .func (.func g) #[] cb] w fun e w' => e = .returned (.tuple #[]) ∧ PlsD w' B (stableS (ltC cf) d) ∧ RowKit.Below n0 w0 w' := by
  have hsym := symMerge_any g cb n0 B cap d.size cf w0 eg hcmp hB0 h0 hn d.size
  have SY := Lib.hid hsym; clear hsym
  have hins := fun (a b : Nat) (dk : Array Nat) (w' : World) (hs : dk.size = d.size) (hP' : PlsD w' B dk) (hB' : RowKit.Below n0 w0 w') (hab : a ≤ b) (hb : b ≤ d.size) => insertion_any g cb n0 B cap a b cf dk w0 w' eg (hs ▸ hcmp) hP' hB' hB0 h0 hab (hs ▸ hb) (hs ▸ hn)
  have HC := Lib.hid hcmp
  clear hcmp
  obtain ⟨fin, hfin⟩ : ∃ fin, fin = stableS (ltC cf) d := ⟨_, rfl⟩
  rw [← hfin]
  unfold stableS at hfin
  obtain ⟨n, hnn⟩ : ∃ n, n = d.size := ⟨_, rfl⟩
  rw [← hnn] at hn hfin SY hins ⊢
  have hins' : ∀ (a b : Nat) (dk : Array Nat) (w' : World), dk.size = n → PlsD w' B dk → RowKit.Below n0 w0 w' → a ≤ b → b ≤ n →
      Calls Tryz.prog 183 #[.slice (some ⟨B, 0, none⟩) n cap, .int .i64 a, .int .i64 b, .func (.func g) #[] cb] w' fun e w'' => e = .returned (.tuple #[]) ∧ PlsD w'' B (insertionSort (ltC cf) dk a b) ∧ RowKit.Below n0 w0 w'' := by
    intro a b dk w' hs hP' hB' hab hb
    have := hins a b dk w' hs hP' hB' hab hb
    rw [hs] at this
    exact this
  have INS := Lib.hid hins'; clear hins' hins
  have HN := Lib.hid hnn; clear hnn
  have Hfin := Lib.hid hfin; clear hfin
  go_enter Tryz.func176, Tryz.ntmps176
  go_wp2
  go_loopw [7, 8] (fun a b wr => ∃ (F k : Nat) (dk : Array Nat), n ≤ F + k ∧ k ≤ n ∧ a = .int .i64 k ∧ b = .int .i64 (k + 20) ∧ Hid (dk.size = n) ∧ PlsD wr B dk ∧ RowKit.Below n0 w0 wr ∧ Hid (stA (ltC cf) n F k dk = stA (ltC cf) n n 0 d)) (fun a _ _ => n - (intOf a).toNat)
  case atStart => exact ⟨n, 0, d, by omega, by omega, rfl, rfl, HN.out.symm, hP, hB, rfl⟩
  case round =>
    obtain ⟨F, k, dk, hF, hk, rfl, rfl, Hs, hPk, hBk, HA⟩ := hrel
    by_cases hlt : k + 20 ≤ n
    · have hltz : (k : Int) + 20 ≤ (n : Int) := by omega
      have hltd : decide ((k : Int) + 20 ≤ (n : Int)) = true := decide_eq_true hltz
      have hw1 : IntKind.i64.wrap ((k : Int) + 20 + 20) = (k : Int) + 20 + 20 := by rw [IntKind.wrap_i64]; omega
      obtain ⟨F, rfl⟩ : ∃ F', F = F' + 1 := ⟨F - 1, by omega⟩
      have hc := INS.out k (k + 20) dk wr Hs.out hPk hBk (by omega) hlt
      have e : ((k + 20 : Nat) : Int) = (k : Int) + 20 := by omega
      rw [e] at hc
      clear e
      go_wp2_with (fail)
      refine hc.mono ?_
      clear hc
      rintro e w2 ⟨rfl, hP2, hB2⟩
      go_wp2
      go_roundw
      case rel =>
        refine ⟨F, k + 20, insertionSort (ltC cf) dk k (k + 20), by omega, hlt, by go_num, by go_num, (by rw [insertionSort_size]; exact Hs.out : Hid _), hP2, hB2, ?_⟩
        show _ = _
        rw [← HA.out, stA, if_pos hlt]
      case measure => simp [intOf]; omega
    · have hltz : ¬ (k : Int) + 20 ≤ (n : Int) := by omega
      have hltd : decide ((k : Int) + 20 ≤ (n : Int)) = false := decide_eq_false hltz
      have hc := INS.out k n dk wr Hs.out hPk hBk hk (Nat.le_refl _)
      have e := HA.out
      rw [stA_end _ _ _ _ _ hlt] at e
      rw [e] at hc
      clear e HA
      have hz1 : (stA (ltC cf) n n 0 d).size = n := by rw [stA_size]; exact HN.out.symm
      have hfin := Hfin.out
      obtain ⟨d1, hd1⟩ : ∃ d1, d1 = stA (ltC cf) n n 0 d := ⟨_, rfl⟩
      rw [← hd1] at hc hz1 hfin
      have Hz1 := Lib.hid hz1; clear hz1
      have Hf1 := Lib.hid hfin; clear hfin
      clear hd1
      go_wp2_with (fail)
      refine hc.mono ?_
      clear hc
      rintro e w2 ⟨rfl, hP2, hB2⟩
      clear hltz hltd
      go_wp2
      go_loopw [6] (fun s wr => ∃ (F bs : Nat) (dk : Array Nat), n ≤ F + bs ∧ 20 ≤ bs ∧ bs ≤ 2000000 ∧ s = .int .i64 bs ∧ Hid (dk.size = n) ∧ PlsD wr B dk ∧ RowKit.Below n0 w0 wr ∧ Hid (stO (ltC cf) n F bs dk = fin)) (fun s _ => n - (intOf s).toNat)
      case atStart => exact ⟨n, 20, d1, by omega, by omega, by omega, rfl, Hz1, hP2, hB2, Hf1.out.symm⟩
      case round =>
        obtain ⟨F, bs, dk, hF, hbs, hbm, rfl, Hs, hPk, hBk, HO⟩ := hrel
        by_cases hlt : bs < n
        · have hltz : (bs : Int) < (n : Int) := by omega
          have hw2 : IntKind.i64.wrap (2 * (bs : Int)) = 2 * (bs : Int) := by rw [IntKind.wrap_i64]; omega
          have hw3 : IntKind.i64.wrap ((bs : Int) * 2) = (bs : Int) * 2 := by rw [IntKind.wrap_i64]; omega
          obtain ⟨F, rfl⟩ : ∃ F', F = F' + 1 := ⟨F - 1, by omega⟩
          have ho := HO.out
          rw [stO, if_pos hlt] at ho
          have HO2 := Lib.hid ho; clear ho HO
          obtain ⟨mg, hmg⟩ : ∃ mg, mg = stMg (ltC cf) n bs n 0 dk := ⟨_, rfl⟩
          rw [← hmg] at HO2
          have hzm : mg.size = n := by rw [hmg, stM_size]; exact Hs.out
          have Hzm := Lib.hid hzm; clear hzm
          have Hmg := Lib.hid hmg; clear hmg
          go_wp2
          go_loopw [7, 8] (fun a b wr => ∃ (F' k : Nat) (dj : Array Nat), n ≤ F' + k ∧ k ≤ n ∧ a = .int .i64 k ∧ b = .int .i64 (k + 2 * bs) ∧ Hid (dj.size = n) ∧ PlsD wr B dj ∧ RowKit.Below n0 w0 wr ∧ Hid (stMg (ltC cf) n bs F' k dj = mg)) (fun a _ _ => n - (intOf a).toNat)
          case atStart => exact ⟨n, 0, dk, by omega, by omega, rfl, by go_num, Hs, hPk, hBk, Hmg.out.symm⟩
          case round =>
            obtain ⟨F', k, dj, hF', hk, rfl, rfl, Hsj, hPj, hBj, HM⟩ := hrel
            by_cases hl2 : k + 2 * bs ≤ n
            · have hl2z : (k : Int) + 2 * (bs : Int) ≤ (n : Int) := by omega
              have hl2d : decide ((k : Int) + 2 * (bs : Int) ≤ (n : Int)) = true := decide_eq_true hl2z
              have hw4 : IntKind.i64.wrap ((k : Int) + (bs : Int)) = (k : Int) + (bs : Int) := by rw [IntKind.wrap_i64]; omega
              have hw5 : IntKind.i64.wrap ((k : Int) + 2 * (bs : Int) + (bs : Int) * 2) = (k : Int) + 2 * (bs : Int) + (bs : Int) * 2 := by rw [IntKind.wrap_i64]; omega
              have hw6 : IntKind.i64.wrap ((k : Int) + 2 * (bs : Int) + 2 * (bs : Int)) = (k : Int) + 2 * (bs : Int) + 2 * (bs : Int) := by rw [IntKind.wrap_i64]; omega
              obtain ⟨F', rfl⟩ : ∃ F'', F' = F'' + 1 := ⟨F' - 1, by omega⟩
              have hc := SY.out k (k + bs) (k + 2 * bs) dj wr (by omega) Hsj.out hPj hBj (by omega) (by omega) hl2
              have e1 : ((k + bs : Nat) : Int) = (k : Int) + (bs : Int) := by omega
              have e2 : ((k + 2 * bs : Nat) : Int) = (k : Int) + 2 * (bs : Int) := by omega
              rw [e1, e2] at hc
              clear e1 e2
              go_wp2_with (fail)
              refine hc.mono ?_
              clear hc
              rintro e w3 ⟨rfl, hP3, hB3⟩
              go_wp2
              go_roundw
              case rel =>
                refine ⟨F', k + 2 * bs, symM (ltC cf) n k (k + bs) (k + 2 * bs) dj, by omega, hl2, by first | rfl | go_num, by first | rfl | go_num | (congr 1; omega), (by rw [symM_size]; exact Hsj.out : Hid _), hP3, hB3, ?_⟩
                show _ = _
                rw [← HM.out, stMg, if_pos hl2]
              case measure => simp [intOf]; omega
            · have hl2z : ¬ (k : Int) + 2 * (bs : Int) ≤ (n : Int) := by omega
              have hl2d : decide ((k : Int) + 2 * (bs : Int) ≤ (n : Int)) = false := decide_eq_false hl2z
              have hw4 : IntKind.i64.wrap ((k : Int) + (bs : Int)) = (k : Int) + (bs : Int) := by rw [IntKind.wrap_i64]; omega
              have hm := HM.out
              rw [stM_end _ _ _ _ _ _ hl2 hF' hk] at hm
              by_cases hl3 : k + bs < n
              · have hl3z : (k : Int) + (bs : Int) < (n : Int) := by omega
                rw [if_pos hl3] at hm
                have hc := SY.out k (k + bs) n dj wr (by omega) Hsj.out hPj hBj (by omega) hl3 (Nat.le_refl _)
                have e1 : ((k + bs : Nat) : Int) = (k : Int) + (bs : Int) := by omega
                rw [e1, hm] at hc
                clear e1 hm
                go_wp2_with (fail)
                refine hc.mono ?_
                clear hc
                rintro e w3 ⟨rfl, hP3, hB3⟩
                go_wp2
                go_roundw
                case rel => exact ⟨F, 2 * bs, mg, by omega, by omega, by omega, by first | rfl | go_num | (congr 1; omega), Hzm, hP3, hB3, HO2⟩
                case measure => simp [intOf]; omega
              · have hl3z : ¬ (k : Int) + (bs : Int) < (n : Int) := by omega
                rw [if_neg hl3] at hm
                subst hm
                go_wp2
                go_roundw
                case rel => exact ⟨F, 2 * bs, dj, by omega, by omega, by omega, by first | rfl | go_num | (congr 1; omega), Hzm, hPj, hBj, HO2⟩
                case measure => simp [intOf]; omega
        · have hltz : ¬ (bs : Int) < (n : Int) := by omega
          have ho := HO.out
          rw [stO_end _ _ _ _ _ hlt] at ho
          subst ho
          go_wp2
          go_end0
          exact ⟨rfl, hPk, hBk⟩

set_option maxRecDepth 100000 in
theorem sortStable_any (g : Nat) (cb : Array Value) (n0 B cap : Nat) (cf : Nat → Nat → Int) (d : Array Nat) (w0 w : World) (eg : ∀ args w, (callFunc g args).run Tryz.prog w = .ok (.enter g args) w) (hcmp : CmpIs g cb n0 d.size cf w0)
    (hP : PlsD w B d) (hB : RowKit.Below n0 w0 w) (hB0 : n0 ≤ B) (h0 : n0 ≤ w0.heap.size) (hn : d.size ≤ 1000000) :
    Calls Tryz.prog 147 #[.slice (some ⟨B, 0, none⟩) d.size cap, .func (.func g) #[] cb] w fun e w' => e = .returned (.tuple #[]) ∧ PlsD w' B (stableS (ltC cf) d) ∧ RowKit.Below n0 w0 w' := by
  have hc := stable_any g cb n0 B cap cf d w0 w eg hcmp hP hB hB0 h0 hn
  generalize d.size = n at *
  generalize stableS (ltC cf) d = r at *
  clear hcmp hP hB
  go_enter Tryz.func147, Tryz.ntmps147
  go_wp2_with (fail)
  refine hc.mono ?_
  clear hc
  rintro e w2 ⟨rfl, hP2, hB2⟩
  go_wp2
  go_end0
  exact ⟨rfl, hP2, hB2⟩

end Go.Proofs.YtollegoajlfdiaaGreat

/-
  Walk: claim.sortedBy.
-/
namespace Go.Proofs.YtollegoajlfdiaaGreat
open Go.RowKit Lg Go.Sort

abbrev encN (i : Nat) : Value := .int .i64 (i : Nat)

theorem toNats (is : List Nat) : is.map encN = (is.map fun i : Nat => (i : Int)).map (Value.int .i64) := by
  rw [List.map_map]; rfl

set_option maxRecDepth 100000 in
set_option maxHeartbeats 1600000 in
theorem sortedBy_any (g : Nat) (cb : Array Value) (cf : Nat → Nat → Int) (v : Value) (is : List Nat) (base : Nat) (w : World) (eg : ∀ args w, (callFunc g args).run Tryz.prog w = .ok (.enter g args) w) (hcmp : CmpIs g cb w.heap.size is.length cf w)
    (ho : w.ownsRow base 3 1 v is.length (is.map encN)) (hlt : ∀ i ∈ is, i < is.length) (hn : is.length ≤ 1000) (h1 : 1 ≤ is.length) :
    Calls Tryz.prog 106 #[v, .func (.func g) #[] cb] w fun e w' => ∃ B cap, e = .returned (.slice (some ⟨B, 0, none⟩) is.length cap) ∧ w.heap.size ≤ B ∧ is.length ≤ cap ∧ cap ≤ maxLen ∧ PlsD w' B (stableS (ltC cf) is.toArray) ∧ RowKit.Below w.heap.size w w' := by
  obtain ⟨hl, ⟨_, h0⟩ | ⟨b, cap, cur, rfl, hbb, hheap, hnc, hcm, hcur, htk⟩⟩ := ho
  · omega
  · have hcell : ∀ j, j < (is.map fun i : Nat => (i : Int)).length → w.cell? ⟨b, 0 + j, none⟩ = some (.int .i64 ((is.map fun i : Nat => (i : Int)).getD j 0)) := fun j hj => by
      have hj' : j < is.length := by simpa using hj
      have e1 : (cur.toList.take (is.length * 1))[j]? = some (encN is[j]) := by rw [htk]; simp [hj']
      rw [List.getElem?_take_of_lt (by omega)] at e1
      have e2 : w.cell? ⟨b, j, none⟩ = cur[j]? := Blk.cell (show Blk w b cur 3 from hheap) j
      rw [Nat.zero_add, e2, ← Array.getElem?_toList, e1]
      simp [List.getD, hj']
    have hcl := Tryz.slices_Clone_int b 0 is.length cap (is.map fun i : Nat => (i : Int)) w (by simp) (by omega) hcell
    have htk2 : (is.map fun i : Nat => (i : Int)).take is.length = is.map fun i : Nat => (i : Int) := List.take_of_length_le (by simp)
    rw [htk2, ← toNats] at hcl
    have HC := Lib.hid hcmp
    have HL := Lib.hid hlt
    clear hcell hcmp hlt htk htk2 hcur hheap
    obtain ⟨n, hnn⟩ : ∃ n, n = is.length := ⟨_, rfl⟩
    rw [← hnn] at hcl hn h1 ⊢
    have HN := Lib.hid hnn; clear hnn
    clear hl hnc
    go_enter Tryz.func106, Tryz.ntmps106
    go_wp2_with (fail)
    refine hcl.mono ?_
    clear hcl
    rintro e w2 ⟨v', rfl, ho2, hnil, hB2⟩
    obtain ⟨hl2, ⟨rfl, _⟩ | ⟨B, cap2, cur2, rfl, hbb2, hheap2, hnc2, hcm2, hcur2, htk2⟩⟩ := ho2
    · exact absurd rfl hnil
    · have hP : PlsD w2 B is.toArray := by
        refine ⟨cur2, hheap2, by simp only [List.size_toArray]; rw [← HN.out]; omega, fun k hk => ?_⟩
        have hk' : k < is.length := by simpa using hk
        have e1 : (cur2.toList.take (n * 1))[k]? = some (encN is[k]) := by rw [htk2]; simp [hk']
        rw [List.getElem?_take_of_lt (by rw [HN.out]; omega)] at e1
        have e3 : is.toArray[k]! = is[k] := by simp [hk']
        rw [e3]
        refine ⟨by simp only [List.size_toArray]; exact HL.out _ (List.getElem_mem hk'), ?_⟩
        rw [← Array.getElem?_toList]; exact e1
      have hc := sortStable_any g cb w.heap.size B cap2 cf is.toArray w w2 eg (by simpa using HC.out) hP hB2 hbb2 (Nat.le_refl _) (by simp only [List.size_toArray]; rw [← HN.out]; omega)
      have e : is.toArray.size = n := by simp only [List.size_toArray]; exact HN.out.symm
      rw [e] at hc
      clear e hP hheap2 hcur2 htk2 hl2 hnil
      go_wp2_with (fail)
      refine hc.mono ?_
      clear hc
      rintro e w3 ⟨rfl, hP3, hB3⟩
      go_wp2_with (fail)
      go_ret
      exact ⟨B, cap2, rfl, hbb2, hnc2, hcm2, hP3, hB3⟩

/-! ### Nothing to sort -/
set_option maxRecDepth 100000 in
set_option maxHeartbeats 1600000 in
theorem insertion_nil (v : Value) (w : World) :
    Calls Tryz.prog 183 #[.slice none 0 0, .int .i64 0, .int .i64 0, v] w fun e w' => e = .returned (.tuple #[]) ∧ w = w' := by
  go_enter Tryz.func183, Tryz.ntmps183
  go_wp2
  go_loopw [8] (fun i wr => i = .int .i64 1 ∧ w = wr) (fun i _ => (intOf i).toNat)
  case atStart => exact ⟨by go_num, rfl⟩
  case round =>
    obtain ⟨rfl, rfl⟩ := hrel
    go_wp2
    go_end0
    exact ⟨rfl, rfl⟩

set_option maxRecDepth 100000 in
set_option maxHeartbeats 1600000 in
theorem stable_nil (v : Value) (w : World) :
    Calls Tryz.prog 176 #[.slice none 0 0, .int .i64 0, v] w fun e w' => e = .returned (.tuple #[]) ∧ w = w' := by
  go_enter Tryz.func176, Tryz.ntmps176
  go_wp2
  go_loopw [7, 8] (fun a b wr => a = .int .i64 0 ∧ b = .int .i64 20 ∧ w = wr) (fun _ _ _ => 0)
  case atStart => exact ⟨rfl, rfl, rfl⟩
  case round =>
    obtain ⟨rfl, rfl, rfl⟩ := hrel
    go_wp2_with (go_at_call 183; refine (insertion_nil _ _).mono ?_; rintro e w3 ⟨rfl, rfl⟩)
    go_loopw [6] (fun s wr => s = .int .i64 20 ∧ w = wr) (fun _ _ => 0)
    case atStart => exact ⟨rfl, rfl⟩
    case round =>
      obtain ⟨rfl, rfl⟩ := hrel
      go_wp2
      go_end0
      exact ⟨rfl, rfl⟩

set_option maxRecDepth 100000 in
theorem sortStable_nil (v : Value) (w : World) :
    Calls Tryz.prog 147 #[.slice none 0 0, v] w fun e w' => e = .returned (.tuple #[]) ∧ w = w' := by
  go_enter Tryz.func147, Tryz.ntmps147
  go_wp2_with (fail)
  refine (stable_nil _ _).mono ?_
  rintro e w2 ⟨rfl, rfl⟩
  go_wp2
  go_end0
  exact ⟨rfl, rfl⟩

set_option maxRecDepth 100000 in
theorem sortedBy_nil (v : Value) (w : World) :
    Calls Tryz.prog 106 #[.slice none 0 0, v] w fun e w' => e = .returned (.slice none 0 0) ∧ w = w' := by
  go_enter Tryz.func106, Tryz.ntmps106
  go_wp2_with (fail)
  refine (Tryz.slices_Clone_int_nil 0 0 w).mono ?_
  rintro e w2 ⟨rfl, rfl⟩
  go_wp2_with (fail)
  refine (sortStable_nil _ _).mono ?_
  rintro e w3 ⟨rfl, rfl⟩
  go_wp2_with (fail)
  go_ret
  exact ⟨rfl, rfl⟩

end Go.Proofs.YtollegoajlfdiaaGreat

/-
  Walks: greatest common divisors.
-/
namespace Go.Proofs.YtollegoajlfdiaaGreat
open Go.RowKit Lg Go.Sort

set_option maxHeartbeats 400000 in
theorem divisor_any (a b : Int) (w : World) (ha : -4000000000000000000 ≤ a ∧ a ≤ 4000000000000000000) (hb : -4000000000000000000 ≤ b ∧ b ≤ 4000000000000000000) :
    Calls Tryz.prog 142 #[.int .i64 a, .int .i64 b] w fun e w' => e = .returned (.int .i64 (Int.gcd a b)) ∧ Below w.heap.size w w' := by
  obtain ⟨g, hg⟩ : ∃ g, g = Int.gcd a b := ⟨_, rfl⟩
  rw [← hg]
  go_enter Tryz.func142, Tryz.ntmps142
  go_wp2
  go_loopw [0, 1] (fun t u wr => ∃ x y : Int, t = .int .i64 x ∧ u = .int .i64 y ∧ -4000000000000000000 ≤ x ∧ x ≤ 4000000000000000000 ∧ -4000000000000000000 ≤ y ∧ y ≤ 4000000000000000000 ∧ Hid (Int.gcd x y = g) ∧ Below w.heap.size w wr) (fun _ u _ => (intOf u).natAbs)
  case atStart => exact ⟨a, b, rfl, rfl, ha.1, ha.2, hb.1, hb.2, hg.symm, Below.refl _ _⟩
  case round =>
    obtain ⟨x, y, rfl, rfl, h1, h2, h3, h4, hG, hB⟩ := hrel
    clear hg
    by_cases hy : y = 0
    · subst hy
      go_wp2
      all_goals
        go_ret
        refine ⟨ret_int ?_, hB⟩
        have := hG.out
        rw [Int.gcd_zero_right] at this
        omega
    · have e1 : (y != 0) = true := by simpa using hy
      have hlt := tmod_lt x y hy
      have h6 := tmod_bd x y 4000000000000000000 ⟨h1, h2⟩
      have hs : Hid (Int.gcd y (x.tmod y) = g) := (gcd_step x y).trans hG.out
      have HL := Lib.hid hlt; clear hlt
      go_wp2
      go_quiet (fail)
      go_wp2
      go_roundw
      case rel => exact ⟨y, _, rfl, rfl, h3, h4, h6.1, h6.2, hs, ⟨hB.os, hB.tape, hB.output, hB.size, hB.block⟩⟩
      case measure => exact HL.out

end Go.Proofs.YtollegoajlfdiaaGreat

/-
  Walks: giving up, and what turns it into an error (claim.ranged).
-/
namespace Go.Proofs.YtollegoajlfdiaaGreat
open Go.RowKit Lg Go.Sort

/-- The value that gives up. -/
abbrev upV : Value := .iface 192 (.agg #[])

set_option maxRecDepth 100000 in
set_option maxHeartbeats 400000 in
theorem catch_up (B : Nat) (x : Int) (older : List PanicEntry) (w : World) (hb : Blk w B #[.int .i64 x] 29) :
    CallsD Tryz.prog 175 #[.pointer (some ⟨B, 0, none⟩)] (.panicking ({ v := upV, recovered := false } :: older)) w fun e u' w' =>
      e = .returned (.tuple #[]) ∧ u' = .panicking ({ v := upV, recovered := true } :: older) ∧ w' = (w.alloc (.cells #[] 192)).setCell ⟨B, 0, none⟩ (.int .i64 2) := by
  have hta : ∀ (v : Value) (w : World), (Instr.typeAssert (.iface 192 v) 20 192 true).run Tryz.prog w = .ok (.tuple #[v, .bool true]) w := fun _ _ => by kernel_rfl
  have hc := fun o => (hb.alloc o).cell 0
  have hf := fun o => (hb.alloc o).frozen 0
  refine callsD_of_wpS Tryz.func175 rfl fun c₀ cs hu => ?_
  simp only [Tryz.ntmps175, List.size_toArray, List.length_cons, List.length_nil, Nat.reduceAdd, Nat.reduceSub, Array.replicate_succ, Array.replicate_zero, List.push_toArray, List.append_toArray, List.nil_append, List.cons_append]
  apply wpS_seq
  apply wpS_region
  simp [wpOpsS, go_sem, recoverD, hu, Exit.thenS]
  refine wpS_of_wp ?_
  go_wp2
  all_goals (cases c₀; simp_all [bodyPostS, results, Tryz.results175])

theorem catch_none (B : Nat) (w : World) :
    CallsD Tryz.prog 175 #[.pointer (some ⟨B, 0, none⟩)] .returning w fun e u' w' => e = .returned (.tuple #[]) ∧ u' = .returning ∧ w' = w := by
  refine callsD_of_wpS Tryz.func175 rfl fun c₀ cs hu => ?_
  simp only [Tryz.ntmps175, List.size_toArray, List.length_cons, List.length_nil, Nat.reduceAdd, Nat.reduceSub, Array.replicate_succ, Array.replicate_zero, List.push_toArray, List.append_toArray, List.nil_append, List.cons_append]
  apply wpS_seq
  apply wpS_region
  simp [wpOpsS, go_sem, recoverD, hu, Exit.thenS]
  refine wpS_of_wp ?_
  go_wp2
  all_goals (cases c₀; simp_all [bodyPostS, results, Tryz.results175])

set_option maxRecDepth 100000 in
set_option maxHeartbeats 400000 in
/-- What is run returns: ranged returns 0. -/
theorem ranged_ok (g : Nat) (cb : Array Value) (eg : ∀ args w, (callFunc g args).run Tryz.prog w = .ok (.enter g args) w) (w : World) (R : World → Prop)
    (hg : Calls Tryz.prog g cb (w.alloc (.cells #[.int .i64 0] 29)) fun e w' => e = .returned (.tuple #[]) ∧ Blk w' w.heap.size #[.int .i64 0] 29 ∧ R w') :
    Calls Tryz.prog 143 #[.func (.func g) #[] cb] w fun e w' => e = .returned (.int .i64 0) ∧ ∃ w1, R w1 ∧ w' = w1.setCell ⟨w.heap.size, 0, none⟩ (.int .i64 0) := by
  have hmf : ∀ (fn : Fn) (first cap : Array Value) (w : World), (Instr.makeFunc fn first cap).run Tryz.prog w = .ok (.func fn first cap) w := fun _ _ _ _ => rfl
  go_enter_defers Tryz.func143, Tryz.ntmps143
  go_wp2
  refine hg.mono ?_
  rintro e w1 ⟨rfl, hb, hr⟩
  have c1 : w1.cell? ⟨w.heap.size, 0, none⟩ = some (.int .i64 0) := hb.cell 0
  have f1 := hb.frozen 0
  have HR := Lib.hid hr; clear hr
  go_wp2
  refine leaves_cons (f := 175) (args := #[.pointer (some ⟨w.heap.size, 0, none⟩)]) (by simp) (by simp [go_sem]) ?_
  refine (catch_none w.heap.size _).mono ?_
  rintro e u' w'' ⟨rfl, rfl, rfl⟩
  have hb2 := hb.setCell 0 (.int .i64 0)
  have c2 : (w1.setCell ⟨w.heap.size, 0, none⟩ (.int .i64 0)).cell? ⟨w.heap.size, 0, none⟩ = some (.int .i64 0) := hb2.cell 0
  simp only [Leaves, settle]
  refine ⟨.int .i64 0, ?_, rfl, w1, HR.out, rfl⟩
  simp [results, Tryz.results143, go_sem, c2]

set_option maxRecDepth 100000 in
set_option maxHeartbeats 400000 in
/-- What is run gives up: ranged returns ErrLimit. -/
theorem ranged_up (g : Nat) (cb : Array Value) (eg : ∀ args w, (callFunc g args).run Tryz.prog w = .ok (.enter g args) w) (w : World) (R : World → Prop)
    (hg : Calls Tryz.prog g cb (w.alloc (.cells #[.int .i64 0] 29)) fun e w' => e = .panicked [{ v := upV, recovered := false }] ∧ Blk w' w.heap.size #[.int .i64 0] 29 ∧ R w') :
    Calls Tryz.prog 143 #[.func (.func g) #[] cb] w fun e w' => e = .returned (.int .i64 2) ∧ ∃ w1, R w1 ∧ w' = (w1.alloc (.cells #[] 192)).setCell ⟨w.heap.size, 0, none⟩ (.int .i64 2) := by
  have hmf : ∀ (fn : Fn) (first cap : Array Value) (w : World), (Instr.makeFunc fn first cap).run Tryz.prog w = .ok (.func fn first cap) w := fun _ _ _ _ => rfl
  go_enter_defers Tryz.func143, Tryz.ntmps143
  go_wp2
  refine hg.mono ?_
  rintro e w1 ⟨rfl, hb, hr⟩
  have HR := Lib.hid hr; clear hr
  go_wp2
  refine leaves_cons (f := 175) (args := #[.pointer (some ⟨w.heap.size, 0, none⟩)]) (by simp) (by simp [go_sem]) ?_
  refine (catch_up w.heap.size 0 [] _ hb).mono ?_
  rintro e u' w'' ⟨rfl, rfl, rfl⟩
  have hb2 := (hb.alloc (.cells #[] 192)).setCell 0 (.int .i64 2)
  have c2 : ((w1.alloc (.cells #[] 192)).setCell ⟨w.heap.size, 0, none⟩ (.int .i64 2)).cell? ⟨w.heap.size, 0, none⟩ = some (.int .i64 2) := hb2.cell 0
  simp only [settle]
  refine ⟨.int .i64 2, ?_, rfl, w1, HR.out, rfl⟩
  simp [results, Tryz.results143, go_sem, c2]

end Go.Proofs.YtollegoajlfdiaaGreat

/-
  Walks: norm and Norm.
-/
namespace Go.Proofs.YtollegoajlfdiaaGreat
open Go.RowKit Lg Go.Sort

set_option maxRecDepth 100000 in
set_option maxHeartbeats 400000 in
theorem norm_ok (num den : Int) (w : World) (h0 : den ≠ 0) (hn : -4000000000000000000 ≤ num ∧ num ≤ 4000000000000000000) (hd : -4000000000000000000 ≤ den ∧ den ≤ 4000000000000000000) (hok : normOk num den = true) :
    Calls Tryz.prog 173 #[.int .i64 num, .int .i64 den] w (Gives w (aF (normN num den))) := by
  obtain ⟨g, hg⟩ : ∃ g : Int, g = (Int.gcd num den : Int) := ⟨_, rfl⟩
  obtain ⟨d, hD⟩ : ∃ d, d = normD num den := ⟨_, rfl⟩
  have hgp : 0 < g := by have := Int.gcd_pos_of_ne_zero_right num h0; omega
  have hgl : g ≤ 4000000000000000000 := by
    have h1 : Int.gcd num den ≤ den.natAbs := Nat.le_of_dvd (by omega) (Int.gcd_dvd_natAbs_right num den)
    omega
  have hdd : d = if den < 0 then -g else g := by rw [hD, hg]; rfl
  have hd0 : d ≠ 0 := by rw [hdd]; split <;> omega
  have hdiv : ∀ W, Calls Tryz.prog 142 #[.int .i64 num, .int .i64 den] W fun e w' => e = .returned (.int .i64 g) ∧ Below W.heap.size W w' := fun W => by rw [hg]; exact divisor_any num den W hn hd
  obtain ⟨q, hq⟩ : ∃ q, q = num.tdiv d := ⟨_, rfl⟩
  obtain ⟨r, hr⟩ : ∃ r, r = den.tdiv d := ⟨_, rfl⟩
  have hqb := tdiv_bd num d _ hn
  have hrb := tdiv_bd den d _ hd
  have hN : normN num den = ⟨q, r⟩ := by rw [hq, hr, hD]; rfl
  have hok' : inn q (-1000000000000) 1000000000000 = true ∧ r ≤ 1000000 := by
    unfold normOk at hok; rw [hN] at hok; simpa using hok
  rw [hN]
  clear hok hN hD hg
  have HQ := Lib.hid hq; clear hq
  have HR := Lib.hid hr; clear hr
  obtain ⟨hi, hr1⟩ := hok'
  by_cases hneg : den < 0
  · obtain rfl : d = -g := by rw [hdd, if_pos hneg]
    have hin : ∀ W, Calls Tryz.prog 102 #[.int .i64 q, .int .i64 (-1000000000000), .int .i64 1000000000000] W fun e w' => e = .returned (.bool true) ∧ W = w' := fun W => by rw [← hi]; exact within5_any _ _ _ W
    clear hdd hi
    go_enter Tryz.func173, Tryz.ntmps173
    go_wp2_with (go_at_call 142; refine (hdiv _).mono ?_; rintro e w1 ⟨rfl, hB1⟩)
    have hb1 : Blk w1 w.heap.size #[.int .i64 0, .int .i64 0] 166 := (Blk.new w _ _).below hB1 (by simp)
    have hB2 : Below w.heap.size w w1 := ((Below.refl _ w).alloc (Nat.le_refl _) _).trans (hB1.mono (by simp))
    clear hB1
    go_quiet (fail)
    have e1 : wrap64 (-num.tdiv g) = q := by rw [HQ.out, Int.tdiv_neg] at *; exact IntWalk.wrap64_in _ (by omega)
    have e2 : wrap64 (-den.tdiv g) = r := by rw [HR.out, Int.tdiv_neg] at *; exact IntWalk.wrap64_in _ (by omega)
    rw [e1, e2]; clear e1 e2
    obtain ⟨w2, hw2⟩ : ∃ w2, w2 = w1.drewN nq := ⟨_, rfl⟩
    have hb2 : Blk w2 w.heap.size #[.int .i64 0, .int .i64 0] 166 := hw2 ▸ hb1
    have hB3 : Below w.heap.size w w2 := hw2 ▸ ⟨hB2.os, hB2.tape, hB2.output, hB2.size, hB2.block⟩
    rw [← hw2]; clear hw2 hb1 hB2 HQ HR hqb hrb
    have c2 := hb2.cell
    have f2 := hb2.frozen
    go_wp2_with (go_at_call 102; refine (hin _).mono ?_; rintro e w3 ⟨rfl, rfl⟩)
    refine bodyPost_ret (results_cell_row rfl _ _ w.heap.size 166 _ _ _ rfl ((hb2.setCell 0 _).setCell 1 _) Tryz.underlying166 rfl (by kernel_rfl)) rfl ⟨?_, (hB3.setCell (p := ⟨w.heap.size, 0, none⟩) (Nat.le_refl _) _).setCell (p := ⟨w.heap.size, 1, none⟩) (Nat.le_refl _) _⟩
    rfl
  · obtain rfl : d = g := by rw [hdd, if_neg hneg]
    have hin : ∀ W, Calls Tryz.prog 102 #[.int .i64 q, .int .i64 (-1000000000000), .int .i64 1000000000000] W fun e w' => e = .returned (.bool true) ∧ W = w' := fun W => by rw [← hi]; exact within5_any _ _ _ W
    clear hdd hi
    go_enter Tryz.func173, Tryz.ntmps173
    go_wp2_with (go_at_call 142; refine (hdiv _).mono ?_; rintro e w1 ⟨rfl, hB1⟩)
    have hb1 : Blk w1 w.heap.size #[.int .i64 0, .int .i64 0] 166 := (Blk.new w _ _).below hB1 (by simp)
    have hB2 : Below w.heap.size w w1 := ((Below.refl _ w).alloc (Nat.le_refl _) _).trans (hB1.mono (by simp))
    clear hB1
    go_quiet (fail)
    rw [← HQ.out, ← HR.out]
    obtain ⟨w2, hw2⟩ : ∃ w2, w2 = w1.drewN nq := ⟨_, rfl⟩
    have hb2 : Blk w2 w.heap.size #[.int .i64 0, .int .i64 0] 166 := hw2 ▸ hb1
    have hB3 : Below w.heap.size w w2 := hw2 ▸ ⟨hB2.os, hB2.tape, hB2.output, hB2.size, hB2.block⟩
    rw [← hw2]; clear hw2 hb1 hB2 HQ HR hqb hrb
    have c2 := hb2.cell
    have f2 := hb2.frozen
    go_wp2_with (go_at_call 102; refine (hin _).mono ?_; rintro e w3 ⟨rfl, rfl⟩)
    refine bodyPost_ret (results_cell_row rfl _ _ w.heap.size 166 _ _ _ rfl ((hb2.setCell 0 _).setCell 1 _) Tryz.underlying166 rfl (by kernel_rfl)) rfl ⟨?_, (hB3.setCell (p := ⟨w.heap.size, 0, none⟩) (Nat.le_refl _) _).setCell (p := ⟨w.heap.size, 1, none⟩) (Nat.le_refl _) _⟩
    rfl

set_option maxRecDepth 100000 in
set_option maxHeartbeats 400000 in
theorem norm_up (num den : Int) (w : World) (h0 : den ≠ 0) (hn : -4000000000000000000 ≤ num ∧ num ≤ 4000000000000000000) (hd : -4000000000000000000 ≤ den ∧ den ≤ 4000000000000000000) (hok : normOk num den = false) :
    Calls Tryz.prog 173 #[.int .i64 num, .int .i64 den] w fun e w' => e = .panicked [{ v := upV, recovered := false }] ∧ Below w.heap.size w w' := by
  obtain ⟨g, hg⟩ : ∃ g : Int, g = (Int.gcd num den : Int) := ⟨_, rfl⟩
  obtain ⟨d, hD⟩ : ∃ d, d = normD num den := ⟨_, rfl⟩
  have hgp : 0 < g := by have := Int.gcd_pos_of_ne_zero_right num h0; omega
  have hgl : g ≤ 4000000000000000000 := by
    have h1 : Int.gcd num den ≤ den.natAbs := Nat.le_of_dvd (by omega) (Int.gcd_dvd_natAbs_right num den)
    omega
  have hdd : d = if den < 0 then -g else g := by rw [hD, hg]; rfl
  have hd0 : d ≠ 0 := by rw [hdd]; split <;> omega
  have hdiv : ∀ W, Calls Tryz.prog 142 #[.int .i64 num, .int .i64 den] W fun e w' => e = .returned (.int .i64 g) ∧ Below W.heap.size W w' := fun W => by rw [hg]; exact divisor_any num den W hn hd
  obtain ⟨q, hq⟩ : ∃ q, q = num.tdiv d := ⟨_, rfl⟩
  obtain ⟨r, hr⟩ : ∃ r, r = den.tdiv d := ⟨_, rfl⟩
  have hqb := tdiv_bd num d _ hn
  have hrb := tdiv_bd den d _ hd
  have hN : normN num den = ⟨q, r⟩ := by rw [hq, hr, hD]; rfl
  have hok' : inn q (-1000000000000) 1000000000000 = true → ¬ r ≤ 1000000 := by
    unfold normOk at hok; rw [hN] at hok; simpa using hok
  clear hok hN hD hg
  have HQ := Lib.hid hq; clear hq
  have HR := Lib.hid hr; clear hr
  by_cases hneg : den < 0
  · obtain rfl : d = -g := by rw [hdd, if_pos hneg]
    have hin : ∀ W, Calls Tryz.prog 102 #[.int .i64 q, .int .i64 (-1000000000000), .int .i64 1000000000000] W fun e w' => e = .returned (.bool (inn q (-1000000000000) 1000000000000)) ∧ W = w' := fun W => within5_any _ _ _ W
    clear hdd
    go_enter Tryz.func173, Tryz.ntmps173
    go_wp2_with (go_at_call 142; refine (hdiv _).mono ?_; rintro e w1 ⟨rfl, hB1⟩)
    have hb1 : Blk w1 w.heap.size #[.int .i64 0, .int .i64 0] 166 := (Blk.new w _ _).below hB1 (by simp)
    have hB2 : Below w.heap.size w w1 := ((Below.refl _ w).alloc (Nat.le_refl _) _).trans (hB1.mono (by simp))
    clear hB1
    go_quiet (fail)
    have e1 : wrap64 (-num.tdiv g) = q := by rw [HQ.out, Int.tdiv_neg] at *; exact IntWalk.wrap64_in _ (by omega)
    have e2 : wrap64 (-den.tdiv g) = r := by rw [HR.out, Int.tdiv_neg] at *; exact IntWalk.wrap64_in _ (by omega)
    rw [e1, e2]; clear e1 e2
    obtain ⟨w2, hw2⟩ : ∃ w2, w2 = w1.drewN nq := ⟨_, rfl⟩
    have hb2 : Blk w2 w.heap.size #[.int .i64 0, .int .i64 0] 166 := hw2 ▸ hb1
    have hB3 : Below w.heap.size w w2 := hw2 ▸ ⟨hB2.os, hB2.tape, hB2.output, hB2.size, hB2.block⟩
    rw [← hw2]; clear hw2 hb1 hB2 HQ HR hqb hrb
    have c2 := hb2.cell
    have f2 := hb2.frozen
    cases hi : inn q (-1000000000000) 1000000000000 with
    | true =>
      rw [hi] at hin
      have hr1 := hok' hi
      clear hok' hi
      have hr2 : 1000000 < r := by omega
      go_wp2_with (go_at_call 102; refine (hin _).mono ?_; rintro e w3 ⟨rfl, rfl⟩)
      exact ⟨rfl, rfl, hB3⟩
    | false =>
      rw [hi] at hin
      clear hok' hi
      go_wp2_with (go_at_call 102; refine (hin _).mono ?_; rintro e w3 ⟨rfl, rfl⟩)
      exact ⟨rfl, rfl, hB3⟩
  · obtain rfl : d = g := by rw [hdd, if_neg hneg]
    have hin : ∀ W, Calls Tryz.prog 102 #[.int .i64 q, .int .i64 (-1000000000000), .int .i64 1000000000000] W fun e w' => e = .returned (.bool (inn q (-1000000000000) 1000000000000)) ∧ W = w' := fun W => within5_any _ _ _ W
    clear hdd
    go_enter Tryz.func173, Tryz.ntmps173
    go_wp2_with (go_at_call 142; refine (hdiv _).mono ?_; rintro e w1 ⟨rfl, hB1⟩)
    have hb1 : Blk w1 w.heap.size #[.int .i64 0, .int .i64 0] 166 := (Blk.new w _ _).below hB1 (by simp)
    have hB2 : Below w.heap.size w w1 := ((Below.refl _ w).alloc (Nat.le_refl _) _).trans (hB1.mono (by simp))
    clear hB1
    go_quiet (fail)
    rw [← HQ.out, ← HR.out]
    obtain ⟨w2, hw2⟩ : ∃ w2, w2 = w1.drewN nq := ⟨_, rfl⟩
    have hb2 : Blk w2 w.heap.size #[.int .i64 0, .int .i64 0] 166 := hw2 ▸ hb1
    have hB3 : Below w.heap.size w w2 := hw2 ▸ ⟨hB2.os, hB2.tape, hB2.output, hB2.size, hB2.block⟩
    rw [← hw2]; clear hw2 hb1 hB2 HQ HR hqb hrb
    have c2 := hb2.cell
    have f2 := hb2.frozen
    cases hi : inn q (-1000000000000) 1000000000000 with
    | true =>
      rw [hi] at hin
      have hr1 := hok' hi
      clear hok' hi
      have hr2 : 1000000 < r := by omega
      go_wp2_with (go_at_call 102; refine (hin _).mono ?_; rintro e w3 ⟨rfl, rfl⟩)
      exact ⟨rfl, rfl, hB3⟩
    | false =>
      rw [hi] at hin
      clear hok' hi
      go_wp2_with (go_at_call 102; refine (hin _).mono ?_; rintro e w3 ⟨rfl, rfl⟩)
      exact ⟨rfl, rfl, hB3⟩

end Go.Proofs.YtollegoajlfdiaaGreat
