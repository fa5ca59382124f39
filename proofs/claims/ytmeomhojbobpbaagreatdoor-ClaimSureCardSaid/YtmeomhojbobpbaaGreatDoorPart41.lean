import Derived.Test.YtmeomhojbobpbaaGreatDoorPart19
import Derived.Test.YtmeomhojbobpbaaGreatDoorPart33
import Derived.Test.YtmeomhojbobpbaaGreatDoorPart36
import Derived.Test.YtmeomhojbobpbaaGreatDoorPart37
import Derived.Test.YtmeomhojbobpbaaGreatDoorPart13
import Derived.Test.YtmeomhojbobpbaaGreatDoorPart40
/-
  The deeds of the chapter's examples: closed facts; walks: sample, f, slices.Equal at numbers.
-/
namespace Go.Proofs.YtmeomhojbobpbaaGreatDoor
open Go.RowKit Lg Go.Sort Go.Shelf

def linesS : List ByteArray := [⟨#[49, 32, 48, 32, 53, 32, 112, 97, 105, 100, 32, 49, 32, 51, 32, 55, 32, 50, 48, 32, 49, 32, 50]⟩, ⟨#[50, 32, 48, 32, 56, 32, 112, 97, 105, 100, 32, 49, 32, 51, 32, 55, 32, 50, 49, 32, 49, 32, 51]⟩, ⟨#[51, 32, 57, 32, 49, 48, 32, 115, 111, 108, 100, 32, 49, 32, 51, 32, 50, 48, 32, 50, 50, 32, 49, 32, 52]⟩, ⟨#[52, 32, 49, 50, 32, 49, 50, 32, 99, 108, 97, 105, 109, 32, 49, 32, 51, 32, 55]⟩, ⟨#[53, 32, 49, 50, 32, 49, 50, 32, 99, 108, 97, 105, 109, 32, 49, 32, 51, 32, 50, 50]⟩, ⟨#[54, 32, 52, 48, 32, 51, 48, 32, 119, 105, 116, 104, 100, 114, 97, 119, 32, 53]⟩, ⟨#[55, 32, 53, 48, 32, 54, 48, 32, 108, 101, 102, 116, 32, 49, 32, 51, 32, 55, 32, 48]⟩]
def line8 : ByteArray := ⟨#[56, 32, 53, 48, 32, 55, 48, 32, 115, 111, 108, 100, 32, 49, 32, 51, 32, 57, 32, 55, 32, 49, 32, 49]⟩

theorem read_lines : ∀ k, k < 7 → readD (linesS.getD k ⟨#[]⟩) = (sampleD.getD k zeroDeed, 0) := by decide +kernel
theorem read_8 : readD line8 = (dd8, 0) := by decide +kernel
theorem app_lines : ∀ k, k < 7 → appendDeed (sampleD.take k) (sampleD.getD k zeroDeed) = (sampleD.take (k + 1), 0) := by decide +kernel
theorem app_8 : appendDeed sampleD dd8 = (sampleD ++ [dd8], 0) := by decide +kernel
theorem asked_1 : askedE sampleD 1 3 7 (-1) 0 = 0 ∧ askedE sampleD 1 3 7 20 0 = 0 ∧ askedE sampleD 1 3 7 30 0 = 0 ∧ askedE sampleD 1 3 7 (-1) 22 = 0 ∧ askedE sampleD 1 3 1 (-1) 0 = 0 ∧ askedE (sampleD ++ [dd8]) 1 3 7 (-1) 0 = 0 := by decide +kernel
theorem len_1 : (ofPack sampleD 1 3 12).length ≤ 18 ∧ (ofPack sampleD 1 3 40).length ≤ 18 ∧ (ofPack (sampleD ++ [dd8]) 1 3 50).length ≤ 18 := by decide +kernel
theorem ok_1 : okLine (ofPack sampleD 1 3 12) 7 (-1) 10 = true := by decide +kernel
theorem ok_2 : okLine (ofPack sampleD 1 3 12) 7 20 21 = true := by decide +kernel
theorem ok_3 : okLine (ofPack sampleD 1 3 40) 7 30 31 = true := by decide +kernel
theorem ok_5 : okLine (ofPack (sampleD ++ [dd8]) 1 3 50) 7 (-1) 1000001 = true := by decide +kernel
/-- All that is left of a list where some are struck. -/
def subs {α : Type} : List α → List (List α)
  | [] => [[]]
  | x :: l => subs l ++ (subs l).map (x :: ·)
theorem mem_subs {α : Type} {l l' : List α} (h : l'.Sublist l) : l' ∈ subs l := by
  induction h with
  | slnil => simp [subs]
  | cons a _ ih => unfold subs; exact List.mem_append_left _ ih
  | cons_cons a _ ih => unfold subs; exact List.mem_append_right _ (List.mem_map.2 ⟨_, ih, rfl⟩)
theorem ok_all : (subs (ofPack sampleD 1 3 12)).all (fun l => okLine l 7 (-1) 10) = true := by decide +kernel
theorem ok_4 : ∀ l, l.Sublist (ofPack sampleD 1 3 12) → okLine l 7 (-1) 10 = true := fun l h => List.all_eq_true.1 ok_all l (mem_subs h)
theorem idle_5 : ((idleOf (sampleD ++ [dd8]) 1 3 7 50 (-1)).1.contains 8) = true := by decide +kernel
theorem split_3 : splitOf 100 [⟨1, 3⟩, ⟨1, 3⟩, ⟨1, 3⟩] = ([34, 33, 33], 0) := by decide +kernel

/-- A row that is written out is a list in memory. -/
theorem Lst.ofBlk {α : Type} {W : World} {B k : Nat} {enc : α → List Value} {xs : List α} {t : TypeId} (hk : ∀ x, (enc x).length = k) (h : Blk W B (xs.flatMap enc).toArray t) (hm : xs.length ≤ maxLen) : Lst W k enc (some ⟨B, 0, none⟩) xs.length xs.length xs :=
  ⟨rfl, Nat.le_refl _, hm, fun i x hx => ⟨B, 0, rfl, h.lt, fun j u hu => by
    rw [h.cell, Nat.zero_add]
    have := flat_put enc k hk xs i j x u hx hu
    simpa using this⟩⟩

theorem equalI_any (a a2 : Option Addr) (n c m d : Nat) (xs ys : List Int) (w : World) (hL : Lst w 1 cI a n c xs) (hM : Lst w 1 cI a2 m d ys) :
    Calls Tryz.prog 19 #[.slice a n c, .slice a2 m d] w (Gives w (.bool (decide (xs = ys)))) := by
  have h1 := hL.len
  have h2 := hM.len
  have h3 := hL.max
  have h4 := hM.max
  have h5 := hL.le
  have h6 := hM.le
  unfold maxLen at h3 h4
  cases xs with
  | nil =>
    rw [List.length_nil] at h1; subst h1
    refine (Any.slices_Equal_int_empty Tryz.lays111 a a2 c m d w (by omega)).mono ?_
    rintro e w' ⟨rfl, rfl⟩
    refine ⟨ret_bool ?_, Below.refl _ _⟩
    cases ys with
    | nil => rw [List.length_nil] at h2; subst h2; rfl
    | cons y ys => rw [List.length_cons] at h2; rw [decide_eq_false (by omega), decide_eq_false (by simp)]
  | cons x xs =>
    cases ys with
    | nil =>
      rw [List.length_nil] at h2; subst h2
      rw [List.length_cons] at h1
      refine (Any.slices_Equal_int_lens Tryz.lays111 a a2 n c 0 d w (by omega)).mono ?_
      rintro e w' ⟨rfl, rfl⟩
      exact ⟨rfl, Below.refl _ _⟩
    | cons y ys =>
      obtain ⟨b, off, rfl, _, _⟩ := hL.at_ 0 x rfl
      obtain ⟨b2, off2, rfl, _, _⟩ := hM.at_ 0 y rfl
      refine (Any.slices_Equal_int Tryz.lays111 b off n c b2 off2 m d (x :: xs) (y :: ys) w (by omega) (by omega) (by omega) (by omega) (fun j hj => hL.cellI j hj) (fun j hj => hM.cellI j hj)).mono ?_
      rintro e w' ⟨rfl, q, rfl⟩
      refine ⟨ret_bool ?_, below_drewN (Below.refl _ w) q⟩
      rw [List.take_of_length_le (by omega), List.take_of_length_le (by omega)]
      show ((x :: xs) == (y :: ys)) = _
      rw [Bool.eq_iff_iff]; simp

set_option maxRecDepth 100000 in
theorem fD_any (n d : Int) (w : World) : Calls Tryz.prog 45 #[.int .i64 n, .int .i64 d] w (Gives w (aF ⟨n, d⟩)) := by
  go_enter Tryz.func45, Tryz.ntmps45
  go_wp2
  (try simp only [Exit.inBlock, Exit.then])
  refine bodyPost_ret (results_cell_one rfl _ _ w.heap.size 25 (cF ⟨n, d⟩) _ rfl (Blk.new w 25 #[.int .i64 n, .int .i64 d]) Tryz.underlying25 rfl (by kernel_rfl)) rfl ?_
  exact ⟨rfl, (Below.refl _ w).alloc (Nat.le_refl _) _⟩

theorem lines_cell (k : Nat) (h : k < 7) : ((linesS.map Value.string).toArray)[k]? = some (.string (linesS.getD k ⟨#[]⟩)) := by
  have h7 : linesS.length = 7 := rfl
  simp [h7, h]

theorem sample_get (k : Nat) (h : k < 7) : sampleD[k]? = some (sampleD.getD k zeroDeed) := by
  have h7 : sampleD.length = 7 := rfl
  simp [h7, h]

set_option maxRecDepth 100000 in
set_option maxHeartbeats 1600000 in
theorem sampleD_any (w : World) (hV : Vs w) : Calls Tryz.prog 62 #[] w fun e w' => ∃ v, e = .returned v ∧ w'.ownsRow w.heap.size 36 11 v 7 (sampleD.flatMap cD) ∧ RowKit.Below w.heap.size w w' := by
  obtain ⟨w0, hw0⟩ : ∃ w0, w0 = w.alloc (.cells #[.string ⟨#[49, 32, 48, 32, 53, 32, 112, 97, 105, 100, 32, 49, 32, 51, 32, 55, 32, 50, 48, 32, 49, 32, 50]⟩, .string ⟨#[50, 32, 48, 32, 56, 32, 112, 97, 105, 100, 32, 49, 32, 51, 32, 55, 32, 50, 49, 32, 49, 32, 51]⟩, .string ⟨#[51, 32, 57, 32, 49, 48, 32, 115, 111, 108, 100, 32, 49, 32, 51, 32, 50, 48, 32, 50, 50, 32, 49, 32, 52]⟩, .string ⟨#[52, 32, 49, 50, 32, 49, 50, 32, 99, 108, 97, 105, 109, 32, 49, 32, 51, 32, 55]⟩, .string ⟨#[53, 32, 49, 50, 32, 49, 50, 32, 99, 108, 97, 105, 109, 32, 49, 32, 51, 32, 50, 50]⟩, .string ⟨#[54, 32, 52, 48, 32, 51, 48, 32, 119, 105, 116, 104, 100, 114, 97, 119, 32, 53]⟩, .string ⟨#[55, 32, 53, 48, 32, 54, 48, 32, 108, 101, 102, 116, 32, 49, 32, 51, 32, 55, 32, 48]⟩] 9) := ⟨_, rfl⟩
  have kS : Blk w0 w.heap.size ((linesS.map Value.string).toArray) 9 := hw0 ▸ Blk.new w 9 #[.string ⟨#[49, 32, 48, 32, 53, 32, 112, 97, 105, 100, 32, 49, 32, 51, 32, 55, 32, 50, 48, 32, 49, 32, 50]⟩, .string ⟨#[50, 32, 48, 32, 56, 32, 112, 97, 105, 100, 32, 49, 32, 51, 32, 55, 32, 50, 49, 32, 49, 32, 51]⟩, .string ⟨#[51, 32, 57, 32, 49, 48, 32, 115, 111, 108, 100, 32, 49, 32, 51, 32, 50, 48, 32, 50, 50, 32, 49, 32, 52]⟩, .string ⟨#[52, 32, 49, 50, 32, 49, 50, 32, 99, 108, 97, 105, 109, 32, 49, 32, 51, 32, 55]⟩, .string ⟨#[53, 32, 49, 50, 32, 49, 50, 32, 99, 108, 97, 105, 109, 32, 49, 32, 51, 32, 50, 50]⟩, .string ⟨#[54, 32, 52, 48, 32, 51, 48, 32, 119, 105, 116, 104, 100, 114, 97, 119, 32, 53]⟩, .string ⟨#[55, 32, 53, 48, 32, 54, 48, 32, 108, 101, 102, 116, 32, 49, 32, 51, 32, 55, 32, 48]⟩]
  have hB0 : RowKit.Below w.heap.size w w0 := hw0 ▸ (Below.refl _ w).alloc (Nat.le_refl _) _
  have HR := Lib.hid read_lines
  have HA := Lib.hid app_lines
  have HC := Lib.hid lines_cell
  have HSz : ∀ k, k < 7 → (linesS.getD k ⟨#[]⟩).size ≤ 1000 := by decide +kernel
  have HSz := Lib.hid HSz
  have HV := Lib.hid hV
  clear hV
  go_enter Tryz.func62, Tryz.ntmps62
  go_upto_region 3 with fail
  rw [← hw0]
  clear hw0
  obtain ⟨bs, hbs⟩ : ∃ b, b = w.heap.size := ⟨_, rfl⟩
  rw [← hbs] at kS ⊢
  have hle : w.heap.size ≤ bs := Nat.le_of_eq hbs.symm
  clear hbs
  go_loopw [1, 8] (fun s1 s8 wr => ∃ k : Nat, k ≤ 7 ∧ s8 = .int .i64 k ∧ wr.ownsRow w.heap.size 36 11 s1 k ((sampleD.take k).flatMap cD) ∧ RowKit.Below w.heap.size w wr ∧ Blk wr bs ((linesS.map Value.string).toArray) 9) (fun _ s8 _ => 7 - (intOf s8).toNat)
  case atStart => exact ⟨0, Nat.zero_le _, rfl, ⟨by simp, .inl ⟨rfl, rfl⟩⟩, hB0, kS⟩
  case round =>
    clear hB0 kS
    obtain ⟨k, hk, rfl, hor, hB, kS⟩ := hrel
    by_cases hlt : k < 7
    · have hlz : (k : Int) < 7 := by omega
      have hck : wr.cell? ⟨bs, k, none⟩ = some (.string (linesS.getD k ⟨#[]⟩)) := by rw [kS.cell]; exact HC.out k hlt
      have hrd := readD_any (linesS.getD k ⟨#[]⟩) wr (HV.out.below hB) (HSz.out k hlt)
      rw [HR.out k hlt] at hrd
      have hap := HA.out k hlt
      have hkl : (sampleD.take k).length = k := by rw [List.length_take]; exact Nat.min_eq_left (by have : sampleD.length = 7 := rfl; omega)
      have hkl2 : (sampleD.take (k + 1)).length = k + 1 := by rw [List.length_take]; exact Nat.min_eq_left (by have : sampleD.length = 7 := rfl; omega)
      generalize linesS.getD k ⟨#[]⟩ = line at *
      generalize sampleD.getD k zeroDeed = x at *
      obtain ⟨av, cv, rfl, _, hLv⟩ := Lst.of_owns (k := 11) (enc := cD) (fun _ => rfl) (by omega) hor hkl
      go_wp2_with (fail)
      refine hrd.mono ?_
      clear hrd hck
      rintro e w2 ⟨rfl, hB2⟩
      obtain ⟨w3, hw3⟩ : ∃ w3, w3 = w2.alloc (.cells #[.int .i64 x.id, .int .i64 x.known, .int .i64 x.hour, .int .u8 x.kind, .int .i64 x.loss, .int .i64 x.pack, .int .i64 x.from_, .int .i64 x.to_, .int .i64 x.share.num, .int .i64 x.share.den, .int .i64 x.of_] 36) := ⟨_, rfl⟩
      have kX : Blk w3 w2.heap.size #[.int .i64 x.id, .int .i64 x.known, .int .i64 x.hour, .int .u8 x.kind, .int .i64 x.loss, .int .i64 x.pack, .int .i64 x.from_, .int .i64 x.to_, .int .i64 x.share.num, .int .i64 x.share.den, .int .i64 x.of_] 36 := hw3 ▸ Blk.new _ _ _
      have hB3 : RowKit.Below wr.heap.size wr w3 := hw3 ▸ (hB2.alloc hB2.size _)
      have hA := appendD_any av k cv (sampleD.take k) x w3 (hLv.below hB3)
      rw [hap] at hA
      go_upto_region 6 with fail
      rw [← hw3]
      clear hw3
      go_wp2_with (first
        | (refine wpList_load_mid rfl 36 (.tmp 4) rfl w2.heap.size 0 rfl (cD x) _ (kX.range 0 _ (fun j v h => by simpa using h)) Tryz.underlying36 rfl (by kernel_rfl) ?_; clear kX)
        | fail)
      refine hA.mono ?_
      clear hA
      rintro e w4 ⟨v4, rfl, ho4, hB4⟩
      have hB5 := hB.trans ((hB3.trans (hB4.mono hB3.size)).mono hB.size)
      have kS5 := (kS.below' hB3).below' hB4
      have hs3 := hB3.size
      go_wp2_with (fail)
      go_roundw
      case rel =>
        refine ⟨k + 1, by omega, by go_num, ?_, hB5, kS5⟩
        have := ownsRow_base_a ho4 (show w.heap.size ≤ w3.heap.size by have := hB.size; omega)
        rwa [hkl2] at this
      case measure => simp [intOf]; omega
    · obtain rfl : k = 7 := by omega
      go_wp2_with (fail)
      go_ret
      exact ⟨_, rfl, hor, hB⟩

end Go.Proofs.YtmeomhojbobpbaaGreatDoor
