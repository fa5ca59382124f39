import Derived.Test.YtollegoajlfdiaaGreatPart15
import Derived.Test.YtollegoajlfdiaaGreatPart04
import Derived.Test.YtollegoajlfdiaaGreatPart11
import Derived.Test.YtollegoajlfdiaaGreatPart17
import Derived.Deep.RegionHeld3
import Derived.BigRegion
/-
  Walk: sums as shares, by ascending parties.
-/
namespace Go.Proofs.YtollegoajlfdiaaGreat
open Go.RowKit Lg Go.Sort Go.Shelf Go.Maps

theorem sortsA (m : Nat) : AnyZI.SortsIn Tryz.prog Tryz.sortedA_ren Fence.wide m :=
  ⟨fun blk off cap ss W hH hblk hsz => callsIn_wide.2 (AnyM.slices_Sort_int Tryz.sortA blk off cap ss W hH hblk hsz),
   fun p cap W => callsIn_wide.2 (AnyM.slices_Sort_int_none Tryz.sortA p cap W)⟩

theorem keys_any (mb : Option Nat) (W : World) : Calls Tryz.prog 126 #[.map mb] W fun e w' => e = .returned (.func (.func 158) #[] #[.pointer (some ⟨W.heap.size, 0, none⟩)]) ∧ w' = W.alloc (.cells #[.map mb] 111) :=
  (callsIn_wide (n := 5)).1 (AnyZI.keys_in Tryz.keysA Fence.wide 5 trivial rfl mb W)

theorem sorted_any (b nn : Nat) (D : DataW Unit) (w : World) (hown : w.ownsMap Tryz.prog 3 (plainElem Tryz.prog 3) b nn D) (hn : Maps.size D ≤ 1000000) :
    Calls Tryz.prog 125 #[.func (.func 158) #[] #[.pointer (some ⟨w.heap.size, 0, none⟩)]] (w.alloc (.cells #[.map (some b)] 111)) fun e w' => ∃ (v : Value) (ss : List Int), e = .returned v ∧ ss.Perm (intKeys D) ∧
      w'.ownsRow w.heap.size 3 1 v ss.length ((ss.mergeSort (fun x y => decide (x ≤ y))).map encZ) ∧ RowKit.Below w.heap.size w w' := by
  have hbl := hown.lt
  have hseq : SeqGives Fence.wide 2 Tryz.prog 158 #[.pointer (some ⟨w.heap.size, 0, none⟩)] encZ (fun ss => ss.Perm (intKeys D)) (Maps.size D) (w.alloc (.cells #[.map (some b)] 111)) :=
    AnyZI.keys_gives (ρ := Tryz.keysA_ren) { Tryz.keysA with } Fence.wide _ trivial rfl (by omega) w.heap.size b nn D _ (by simp) (by simp) (by
      obtain ⟨es, clock, hb, Ft, hs, hD⟩ := hown
      exact ⟨es, clock, (Below.heap_alloc _ _ b hbl).trans hb, Ft, hs, hD⟩)
  have cS := AnyZI.sorted_in Tryz.sortedA Fence.wide 5 trivial trivial trivial trivial rfl (by omega) (sortsA _) (enters_of Tryz.func90 (by kernel_rfl) rfl) 158 #[.pointer (some ⟨w.heap.size, 0, none⟩)] trivial (enters_of Tryz.func158 (by kernel_rfl) rfl) _ _ (by unfold maxLen; omega) (by omega) _ hseq
  refine ((callsIn_wide (n := 5)).1 cS).mono ?_
  rintro e w' ⟨v, ss, rfl, hS, hrow, hnil, hb⟩
  exact ⟨v, ss, rfl, hS, ownsRow_base_a hrow (by simp), ((Below.refl _ w).alloc (Nat.le_refl _) _).trans (hb.mono (by simp))⟩

theorem keys_int {w : World} {b nn : Nat} {D : DataW Unit} (hown : w.ownsMap Tryz.prog 3 (plainElem Tryz.prog 3) b nn D) : ∃ es, D = .map es ∧ es.Pairwise (fun p q => p.1 ≠ q.1) ∧ ∀ p ∈ es, ∃ y, p.1 = .int .i64 y := by
  obtain ⟨es, hD, hpw, _⟩ := hown.entries lawI
  obtain ⟨es', hD', hko⟩ := hown.keysOf
  obtain rfl : es = es' := by rw [hD] at hD'; simpa using hD'
  exact ⟨es, hD, hpw, fun p hp => by
    obtain ⟨v, hv⟩ := hko p hp
    obtain ⟨y, _, hy, _⟩ := Maps.keyOf_i64 Tryz.underlying3 hv
    exact ⟨y, hy⟩⟩

theorem mem_intKeys {es : List (Lit × DataW Unit)} (h : ∀ p ∈ es, ∃ y, p.1 = .int .i64 y) (x : Int) : x ∈ intKeys (.map es) ↔ has (.map es) (.int .i64 x) = true := by
  rw [has_eq, List.any_eq_true]
  show x ∈ es.map _ ↔ _
  rw [List.mem_map]
  constructor
  · rintro ⟨p, hp, rfl⟩
    obtain ⟨y, hy⟩ := h p hp
    exact ⟨p, hp, by rw [hy]; simp [Lit.sameKey]; rfl⟩
  · rintro ⟨p, hp, hs⟩
    obtain ⟨y, hy⟩ := h p hp
    refine ⟨p, hp, ?_⟩
    rw [hy] at hs ⊢
    simp [Lit.sameKey] at hs
    exact hs

theorem nodup_intKeys {es : List (Lit × DataW Unit)} (h : ∀ p ∈ es, ∃ y, p.1 = .int .i64 y) (hp : es.Pairwise (fun p q => p.1 ≠ q.1)) : (intKeys (.map es)).Nodup := by
  show (es.map _).Nodup
  rw [List.Nodup, List.pairwise_map]
  refine hp.imp_of_mem ?_
  intro p q hp hq hne e
  obtain ⟨y, hy⟩ := h p hp
  obtain ⟨z, hz⟩ := h q hq
  rw [hy, hz] at hne e
  exact hne (by rw [show y = z from e])

theorem ownsMap_below {w w' : World} {b nn : Nat} {D : DataW Unit} (h : w.ownsMap Tryz.prog 3 (plainElem Tryz.prog 3) b nn D) (hb : w'.heap[b]? = w.heap[b]?) : w'.ownsMap Tryz.prog 3 (plainElem Tryz.prog 3) b nn D := by
  obtain ⟨es, clock, hb', r⟩ := h
  exact ⟨es, clock, hb.trans hb', r⟩

theorem ownsMap_size {w : World} {b nn : Nat} {D : DataW Unit} (h : w.ownsMap Tryz.prog 3 (plainElem Tryz.prog 3) b nn D) : Maps.size D ≤ nn := by
  obtain ⟨es, clock, hb', hF, hs, rfl⟩ := h
  rw [size_eq]
  refine Nat.le_trans (Nat.le_of_eq ?_) hs
  have : ∀ l : List (Lit × DataW Unit), (l.foldr DataW.insert []).length = l.length := by
    intro l
    induction l with
    | nil => rfl
    | cons x l ih =>
      have hins : ∀ (m : List (Lit × DataW Unit)), (DataW.insert x m).length = m.length + 1 := by
        intro m
        induction m with
        | nil => rfl
        | cons y m ih2 => unfold DataW.insert; split <;> simp [ih2]
      rw [List.foldr_cons, hins, ih, List.length_cons]
  rw [this]; simp

/-- A call hands back a new list of shares: that of f. -/
def GivesF (w : World) (f : Int → Int) (e : Ending) (w' : World) : Prop :=
  ∃ v ys, e = .returned v ∧ ListOf f ys ∧ w'.ownsRow w.heap.size 69 2 v ys.length (ys.flatMap cSh) ∧ RowKit.Below w.heap.size w w'

set_option maxRecDepth 100000 in
set_option maxHeartbeats 1600000 in
theorem listed_any (b nn : Nat) (f : Int → Int) (w : World) (hnn : nn ≤ 3000) (ho : OwnM b nn f w) :
    Calls Tryz.prog 83 #[.map (some b)] w (GivesF w f) := by
  obtain ⟨D, hown, hMF⟩ := ho
  have hbl := hown.lt
  have hsz := ownsMap_size hown
  obtain ⟨i0, hi0, hz0, hz1, hz2⟩ := info_parts infoSh
  have cS := sorted_any b nn D w hown (by omega)
  go_enter Tryz.func83, Tryz.ntmps83
  go_wp2_with (fail)
  refine (keys_any (some b) w).mono ?_
  rintro e w1 ⟨rfl, rfl⟩
  go_wp2_with (fail)
  refine cS.mono ?_
  clear cS
  rintro e w2 ⟨v, ss, rfl, hperm, hrow, hB2⟩
  obtain ⟨es, hDe, hpw, hke⟩ := keys_int hown
  have hnd : ss.Nodup := by rw [hperm.nodup_iff, hDe]; exact nodup_intKeys hke hpw
  have hmem : ∀ p, p ∈ ss ↔ f p ≠ 0 := fun p => by
    rw [hperm.mem_iff, hDe, mem_intKeys hke, ← hDe, (hMF.2 p).2]; simp
  obtain ⟨ks, hks⟩ : ∃ ks, ks = ss.mergeSort fun x y => decide (x ≤ y) := ⟨_, rfl⟩
  have hkl : ks.length = ss.length := by rw [hks]; exact List.length_mergeSort ss
  have hk1 : ks.Pairwise (· < ·) := by rw [hks]; exact sorted_strict hnd
  have hk2 : ∀ p, p ∈ ks ↔ f p ≠ 0 := fun p => by rw [hks, List.mem_mergeSort]; exact hmem p
  have hsl : ks.length ≤ 3000 := by
    rw [hkl, hperm.length_eq, hDe]
    rw [hDe, size_eq] at hsz
    show (es.map _).length ≤ _
    rw [List.length_map]; omega
  have hkw : ∀ p ∈ ks, keyOf Tryz.prog 3 (.int .i64 p) = some (.int .i64 p) := fun p hp => by
    refine keyOf_int_mk Tryz.underlying3 (intKeys_wf hown Tryz.underlying3 p ?_)
    exact hperm.mem_iff.1 (by rw [hks, List.mem_mergeSort] at hp; exact hp)
  rw [← hks, ← hkl] at hrow
  have hLf := listOf_keys hk1 hk2
  have HLf := Lib.hid hLf
  have Hk2 := Lib.hid hk2
  clear hLf hk1 hk2 hks hkl hmem hnd hDe hpw hke hperm hsz
  have hrow2 : w2.ownsRow w.heap.size 3 1 v ks.length (ks.flatMap cI) := by rw [flat_int]; exact hrow
  clear hrow
  obtain ⟨a2, cap2, rfl, hpl, hL2⟩ := Lst.of_owns (k := 1) (enc := cI) (fun _ => rfl) Nat.zero_lt_one hrow2 rfl
  clear hrow2 hpl
  have hm2 : cap2 ≤ 9223372036854775807 := by have := hL2.max; unfold maxLen at this; omega
  have hle2 := hL2.le
  have hs2 := hB2.size
  go_wp2_with (fail)
  go_loopw [10, 3] (fun i o wr => ∃ k : Nat, k ≤ ks.length ∧ i = .int .i64 k ∧
    wr.ownsRow w2.heap.size 69 2 o ((ks.take k).map fun p => Share.mk p (f p)).length (((ks.take k).map fun p => Share.mk p (f p)).flatMap cSh) ∧ RowKit.Below w2.heap.size w2 wr) (fun i _ _ => ks.length - (intOf i).toNat)
  case atStart => exact ⟨0, Nat.zero_le _, rfl, ⟨by simp, .inl ⟨rfl, rfl⟩⟩, Below.refl _ _⟩
  case round =>
    obtain ⟨k, hk, rfl, hor, hB⟩ := hrel
    by_cases hlt : k < ks.length
    · obtain ⟨p, hp⟩ : ∃ p, ks[k]? = some p := ⟨ks[k], by simp⟩
      obtain ⟨bb, off, rfl, hbb, hr⟩ := hL2.at_ k p hp
      have hr' := rangeAt_below hB hbb hr 0 _ rfl
      simp only [Nat.mul_one, Nat.add_zero] at hr'
      have hkey := hkw p (List.mem_of_getElem? hp)
      have htk : (ks.take (k + 1)).map (fun p => Share.mk p (f p)) = (ks.take k).map (fun p => Share.mk p (f p)) ++ [Share.mk p (f p)] := by
        obtain ⟨h1, h2⟩ := List.getElem?_eq_some_iff.1 hp
        rw [List.take_succ_eq_append_getElem h1, h2, List.map_append]; rfl
      have hll : ((ks.take k).map fun p => Share.mk p (f p)).length ≤ 3000 := by
        rw [List.length_map]; exact Nat.le_trans (List.length_take_le _ _) (by omega)
      have hownr : wr.ownsMap Tryz.prog 3 (plainElem Tryz.prog 3) b nn D := ownsMap_below hown ((hB.block b (by omega)).trans (hB2.block b hbl))
      have hat := (hMF.2 p).1
      have Hat := Lib.hid hat
      have Htk := Lib.hid htk
      have Hp := Lib.hid hp
      clear hat htk hp
      generalize (ks.take k).map (fun p => Share.mk p (f p)) = zs at *
      obtain ⟨fp, hfp⟩ : ∃ fp, fp = f p := ⟨_, rfl⟩
      rw [← hfp] at Hat Htk
      clear hfp
      have hsw := hB.size
      go_wp2_with (first
        | (at_lookup; refine wpList_lookup_known _ rfl _ _ rfl b nn D rfl hownr _ _ rfl hkey fp Hat.out ?_)
        | (at_builtin; refine wpList_append_lies _ rfl _ _ _ rfl w2.heap.size 69 i0 _ 2 16 Tryz.underlying45 hi0 hz0 hz1 hz2 rfl (by omega) _ zs.length (zs.flatMap cSh) rfl (hor.alloc _) ⟨wr.heap.size, 0, none⟩ 1 1 [.int .i64 p, .int .i64 fp] rfl rfl (World.news_of_block (cs := #[.int .i64 p, .int .i64 fp]) (t := 69) (fr := (0, 0)) (heap_alloc_new wr _)) (by simp [Value.oneCell']) (by omega) (by unfold maxLen; omega) (by omega) (by simp; omega) _ rfl ?_; intro g cap1 w3 hown3 hgrow hat hlt1)
        | fail)
      go_roundw
      case rel =>
        refine ⟨k + 1, by omega, by go_num, ?_, below_of_grown (hB.alloc hB.size _) (Nat.le_refl _) hgrow (own_ge' hor)⟩
        rw [Htk.out, List.length_append, List.flatMap_append, List.flatMap_singleton]
        exact hown3
      case measure => simp [intOf]; omega
    · obtain rfl : k = ks.length := by omega
      rw [List.take_of_length_le (Nat.le_refl _)] at hor
      go_wp2
      go_ret
      exact ⟨_, _, rfl, HLf.out, ownsRow_base_a hor hs2, hB2.trans (hB.mono hs2)⟩

end Go.Proofs.YtollegoajlfdiaaGreat

/-
  Walks: merged, mergeable, Change.
-/
namespace Go.Proofs.YtollegoajlfdiaaGreat
open Go.RowKit Lg Go.Sort Go.Shelf Go.Maps

theorem GivesF.congr {w w' : World} {f g : Int → Int} {e : Ending} (h : GivesF w f e w') (hfg : ∀ p, f p = g p) : GivesF w g e w' := by
  rw [show g = f from funext fun p => (hfg p).symm]; exact h

theorem OwnM.made (w : World) : OwnM w.heap.size 0 (fun _ => 0) (w.alloc (.map #[] 0)) := ⟨_, World.ownsMap_made _ _ _ _, MapF.empty⟩

set_option maxRecDepth 100000 in
set_option maxHeartbeats 1600000 in
theorem merged_any (a : Option Addr) (n cap : Nat) (xs : List Share) (w : World) (hn : n ≤ 1100) (hL : Lst w 2 cSh a n cap xs) (hx : ∀ x ∈ xs, 0 ≤ x.party ∧ x.party ≤ 40 ∧ -1000000000 ≤ x.pence ∧ x.pence ≤ 1000000000) :
    Calls Tryz.prog 78 #[.slice a n cap] w (GivesF w (sumP xs)) := by
  have hmm := @run_makeMap Tryz.prog
  have hs := sums1_any a n cap xs w.heap.size 0 (fun _ => 0) (w.alloc (.map #[] 0)) hn (by omega) (OwnM.made w) (fun W' h => hL.below (((Below.refl _ w).alloc (Nat.le_refl _) _).trans h)) hx (fun _ => by omega)
  go_enter Tryz.func78, Tryz.ntmps78
  go_wp2_with (fail)
  refine hs.mono ?_
  rintro e w1 ⟨rfl, ho, hB⟩
  have hb1 : RowKit.Below w.heap.size w w1 := ((Below.refl _ w).alloc (Nat.le_refl _) _).trans hB
  go_wp2_with (fail)
  refine (listed_any w.heap.size (0 + n) _ w1 (by omega) ho).mono ?_
  rintro e w2 ⟨v, ys, rfl, hf, hown, hb2⟩
  go_wp2_with (fail)
  go_ret
  refine GivesF.congr (f := fun p => 0 + 1 * sumP xs p) ⟨v, ys, rfl, hf, ownsRow_base_a hown hb1.size, hb1.trans (hb2.mono hb1.size)⟩ (fun p => by omega)

end Go.Proofs.YtollegoajlfdiaaGreat

/-
  Walk: what the finders get.
-/
namespace Go.Proofs.YtollegoajlfdiaaGreat
open Go.RowKit Lg Go.Sort Go.Shelf

set_option maxRecDepth 100000 in
set_option maxHeartbeats 1600000 in
theorem finding_any (B base : Nat) (W0 : World) (price cart store find rest m : Int) (r : Rate) (s : Sale) (a : Option Addr) (n cap : Nat) (fs : List Int) (shs : List Share) (W : World)
    (hP : PotS B base W0 price cart store find rest r s (.slice a n cap) shs W) (hlt : B < base) (hn : shs.length ≤ 100)
    (hL : ∀ W', RowKit.Below B W0 W' → Lst W' 1 cI a n cap fs) (hfs : partiesOk fs = true)
    (hp : 0 ≤ price ∧ price ≤ 1000000000) (hf : 0 ≤ r.finder.num ∧ r.finder.num ≤ r.finder.den ∧ 1 ≤ r.finder.den ∧ r.finder.den ≤ 1000000) (hr : 0 ≤ rest ∧ rest ≤ 1000000000) (hm : m = min ((price * r.finder.num).tdiv r.finder.den) rest) :
    Calls Tryz.prog 77 #[.pointer (some ⟨B, 0, none⟩)] W fun e w' => e = .returned (.tuple #[]) ∧ PotS B base W0 price cart store m (rest - m) r s (.slice a n cap) (shs ++ List.zipWith Share.mk fs ((List.range n).map (eqVal m n))) w' := by
  obtain ⟨vs, hvs⟩ : ∃ vs, vs = (List.range n).map (eqVal m n) := ⟨_, rfl⟩
  rw [← hvs]
  have hvl : vs.length = n := by rw [hvs, List.length_map, List.length_range]
  obtain ⟨zs, hzs⟩ : ∃ zs, zs = List.zipWith Share.mk fs vs := ⟨_, rfl⟩
  rw [← hzs]
  have Hvs := Lib.hid hvs; clear hvs
  have Hzs := Lib.hid hzs; clear hzs
  obtain ⟨lv, hB, ho, hbs, hbel⟩ := hP
  obtain ⟨hp1, hp2⟩ := hp
  obtain ⟨hf1, hf2, hf3, hf4⟩ := hf
  obtain ⟨hr1, hr2⟩ := hr
  have hlen := (hL W hbel).len
  have hn2 : 1 ≤ n ∧ n ≤ 40 := by
    have := hfs
    unfold partiesOk at this
    simp only [Bool.and_eq_true, inn_iff, hlen] at this
    omega
  have hpn : 0 ≤ price * r.finder.num := Int.mul_nonneg hp1 hf1
  have hpn2 : price * r.finder.num ≤ 1000000000000000 := by
    calc price * r.finder.num ≤ 1000000000 * r.finder.num := Int.mul_le_mul_of_nonneg_right hp2 hf1
      _ ≤ 1000000000000000 := by omega
  have hq : 0 ≤ (price * r.finder.num).tdiv r.finder.den ∧ (price * r.finder.num).tdiv r.finder.den ≤ 1000000000000000 := by
    rw [Int.tdiv_eq_ediv_of_nonneg hpn]
    exact ⟨Int.ediv_nonneg hpn (by omega), Int.le_trans (Int.ediv_le_self _ hpn) hpn2⟩
  obtain ⟨q, hqq⟩ : ∃ q, q = (price * r.finder.num).tdiv r.finder.den := ⟨_, rfl⟩
  rw [← hqq] at hm hq
  obtain ⟨hq1, hq2⟩ := hq
  have hm1 : 0 ≤ m ∧ m ≤ 1000000000 := by rw [hm]; omega
  obtain ⟨hm10, hm11⟩ := hm1
  have Hm := Lib.hid hm; clear hm
  have c0 := hB.cell
  have hw1 : IntKind.i64.wrap (price * r.finder.num) = price * r.finder.num := by rw [IntKind.wrap_i64]; omega
  have hw2 : IntKind.i64.wrap ((price * r.finder.num).tdiv r.finder.den) = q := by rw [← hqq, IntKind.wrap_i64]; omega
  have hd0 : (r.finder.den == 0) = false := by simp; omega
  have hd1 : r.finder.den ≠ 0 := by omega
  rw [← hqq] at hw2
  have hqq' : (price * r.finder.num).tdiv r.finder.den = q := hqq.symm
  clear hpn hpn2 hqq
  go_enter Tryz.func77, Tryz.ntmps77
  go_wp2_with (fail)
  have cc := hB.cell
  have ff := hB.frozen
  go_region_held3 (fun w' => w'.cell? ⟨B, 0, none⟩ = some (.int .i64 price) ∧ w'.cell? ⟨B, 10, none⟩ = some (.int .i64 r.finder.num) ∧ w'.cell? ⟨B, 11, none⟩ = some (.int .i64 r.finder.den))
    (first
      | exact ⟨c0 0, c0 10, c0 11⟩
      | exact ⟨(hB.setCell 4 _).cell 0, (hB.setCell 4 _).cell 10, (hB.setCell 4 _).cell 11⟩
      | exact ⟨((hB.setCell 4 _).setCell 3 _).cell 0, ((hB.setCell 4 _).setCell 3 _).cell 10, ((hB.setCell 4 _).setCell 3 _).cell 11⟩
      | fail)
    (first
      | (go_at_call 121; refine (takes_any B price cart store find rest q m r s (.slice a n cap) lv W.drew hB.drew ⟨hq1, Int.le_trans hq2 (by decide)⟩ ⟨hr1, Int.le_trans hr2 (by decide)⟩ Hm.out).mono ?_; rintro e w2 ⟨rfl, rfl⟩)
      | fail)
  rename_i hSx
  clear hSx
  obtain ⟨w3, hw3⟩ : ∃ w3, w3 = ((W.setCell ⟨B, 4, none⟩ (.int .i64 (rest - m))).setCell ⟨B, 3, none⟩ (.int .i64 m)).drew := ⟨_, rfl⟩
  rw [← hw3]
  have e43 : (((#[.int .i64 price, .int .i64 cart, .int .i64 store, .int .i64 find, .int .i64 rest, .slice none 0 0, .int .i64 r.id, .int .i64 r.known, .int .i64 r.from_, .string r.goods, .int .i64 r.finder.num, .int .i64 r.finder.den, .int .i64 r.cart, .int .i64 r.store, .int .i64 r.of_, .int .i64 s.id, .int .i64 s.known, .int .i64 s.hour, .int .i64 s.parcel, .int .i64 s.price, .int .i64 s.carter, .int .i64 s.keeper, .int .i64 s.since, .int .i64 s.of_, .slice a n cap, lv]).setIfInBounds 4 (.int .i64 (rest - m))).setIfInBounds 3 (.int .i64 m)) = #[.int .i64 price, .int .i64 cart, .int .i64 store, .int .i64 m, .int .i64 (rest - m), .slice none 0 0, .int .i64 r.id, .int .i64 r.known, .int .i64 r.from_, .string r.goods, .int .i64 r.finder.num, .int .i64 r.finder.den, .int .i64 r.cart, .int .i64 r.store, .int .i64 r.of_, .int .i64 s.id, .int .i64 s.known, .int .i64 s.hour, .int .i64 s.parcel, .int .i64 s.price, .int .i64 s.carter, .int .i64 s.keeper, .int .i64 s.since, .int .i64 s.of_, .slice a n cap, lv] := by kernel_rfl
  have hB3 : Blk w3 B #[.int .i64 price, .int .i64 cart, .int .i64 store, .int .i64 m, .int .i64 (rest - m), .slice none 0 0, .int .i64 r.id, .int .i64 r.known, .int .i64 r.from_, .string r.goods, .int .i64 r.finder.num, .int .i64 r.finder.den, .int .i64 r.cart, .int .i64 r.store, .int .i64 r.of_, .int .i64 s.id, .int .i64 s.known, .int .i64 s.hour, .int .i64 s.parcel, .int .i64 s.price, .int .i64 s.carter, .int .i64 s.keeper, .int .i64 s.since, .int .i64 s.of_, .slice a n cap, lv] 104 := by
    rw [hw3, ← e43]; exact ((hB.setCell 4 _).setCell 3 _).drew
  have ho3 := (own_set (own_set ho hlt 4 (.int .i64 (rest - m))) hlt 3 (.int .i64 m)).drew
  rw [← hw3] at ho3
  have hbs3 : base ≤ w3.heap.size := by
    have : w3.heap.size = W.heap.size := by rw [hw3]; simp [World.setCell, World.drew]
    rw [this]; exact hbs
  have hbel3 : RowKit.Below B W0 w3 := hw3 ▸ ((hbel.setCell (p := ⟨B, 4, none⟩) (Nat.le_refl _) _).setCell (p := ⟨B, 3, none⟩) (Nat.le_refl _) _).drew
  clear hw3 e43 c0 cc ff hB ho hbs hbel hw1 hw2 hqq' hq1 hq2 Hm
  have c3 := hB3.cell
  go_wp2_with (fail)
  have hE := equal_any m a n cap fs w3.drew (hL _ hbel3.drew)
  rw [equalOf_ok hm10 hm11 hfs, hlen, ← Hvs.out] at hE
  go_region_held3 (fun w' => w'.cell? ⟨B, 3, none⟩ = some (.int .i64 m) ∧ w'.cell? ⟨B, 24, none⟩ = some (.slice a n cap))
    (first
      | exact ⟨c3 3, c3 24⟩
      | exact ⟨(hB3.drew.below' hb4).cell 3, (hB3.drew.below' hb4).cell 24⟩
      | fail)
    (first
      | (go_at_call 26; refine hE.mono ?_; rintro e w4 ⟨v4, rfl, ho4, hb4⟩)
      | fail)
  rename_i hSx
  clear hSx hE
  have hvl2 := hvl
  rw [hvl] at ho4
  obtain ⟨a2, cap2, rfl, hpl2, hL2⟩ := Lst.of_owns (k := 1) (enc := cI) (fun _ => rfl) Nat.zero_lt_one ho4 hvl
  clear ho4
  have hm2 : cap2 ≤ 9223372036854775807 := by have := hL2.max; unfold maxLen at this; omega
  have hle2 := hL2.le
  have hB4 := hB3.drew.below' hb4
  have ho4 := own_below ho3.drew hb4
  have hbs4 := Nat.le_trans hbs3 hb4.size
  have hbel4 := hbel3.drew.trans (hb4.mono (Nat.le_of_lt hB3.lt))
  have hzl : zs.length = n := by rw [Hzs.out, List.length_zipWith, hlen, hvl]; simp
  obtain ⟨gl, rfl, hgl⟩ : ∃ gl, a2 = some ⟨gl, 0, none⟩ ∧ w3.heap.size ≤ gl := by
    obtain ⟨x, hx⟩ : ∃ x, vs[0]? = some x := ⟨vs[0]'(by omega), by simp⟩
    obtain ⟨b, off, rfl, _, _⟩ := hL2.at_ 0 x hx
    obtain ⟨b', h1, h2⟩ := hpl2 _ rfl
    cases h2
    exact ⟨_, rfl, h1⟩
  have hglt : gl < w4.heap.size := by
    obtain ⟨x, hx⟩ : ∃ x, vs[0]? = some x := ⟨vs[0]'(by omega), by simp⟩
    obtain ⟨b, off, h, hb, _⟩ := hL2.at_ 0 x hx
    cases h; exact hb
  have hgB : gl ≠ B := by have := hB3.lt; omega
  have hgo : some gl ≠ lv.ownBlock := fun e => by have := (ho3.lt gl e.symm).2; omega
  clear hpl2 ho3 hbs3 hbel3 hB3 c3 hb4
  go_wp2_with (fail)
  go_loopw [46] (fun i wr => ∃ k : Nat, k ≤ n ∧ i = .int .i64 k ∧ (∃ lv', Blk wr B #[.int .i64 price, .int .i64 cart, .int .i64 store, .int .i64 m, .int .i64 (rest - m), .slice none 0 0, .int .i64 r.id, .int .i64 r.known, .int .i64 r.from_, .string r.goods, .int .i64 r.finder.num, .int .i64 r.finder.den, .int .i64 r.cart, .int .i64 r.store, .int .i64 r.of_, .int .i64 s.id, .int .i64 s.known, .int .i64 s.hour, .int .i64 s.parcel, .int .i64 s.price, .int .i64 s.carter, .int .i64 s.keeper, .int .i64 s.since, .int .i64 s.of_, .slice a n cap, lv'] 104 ∧ wr.ownsRow base 69 2 lv' (shs ++ zs.take k).length ((shs ++ zs.take k).flatMap cSh) ∧ some gl ≠ lv'.ownBlock) ∧
    base ≤ wr.heap.size ∧ RowKit.Below B W0 wr ∧ wr.heap[gl]? = w4.heap[gl]? ∧ w4.heap.size ≤ wr.heap.size) (fun i _ => n - (intOf i).toNat)
  case atStart => exact ⟨0, Nat.zero_le _, rfl, ⟨lv, hB4, by simpa using ho4, hgo⟩, hbs4, hbel4, rfl, Nat.le_refl _⟩
  case round =>
    obtain ⟨k, hk, rfl, ⟨lv', hBr, hor, hgor⟩, hbsr, hbelr, hglr, hszr⟩ := hrel
    by_cases hlt2 : k < n
    · obtain ⟨x, hx⟩ : ∃ x, vs[k]? = some x := ⟨vs[k]'(by omega), by simp⟩
      obtain ⟨b, off, hab, hb, hrg⟩ := hL2.at_ k x hx
      cases hab
      have hcx := hrg 0 _ rfl
      simp only [Nat.mul_one, Nat.add_zero, Nat.zero_add] at hcx
      have hcx2 : wr.cell? ⟨gl, k, none⟩ = some (.int .i64 x) := (World.cell?_of_block (w := w4) (a := ⟨gl, k, none⟩) hglr).trans hcx
      obtain ⟨p, hp⟩ : ∃ p, fs[k]? = some p := ⟨fs[k]'(by omega), by simp⟩
      obtain ⟨b, off, rfl, hb', hrg'⟩ := (hL wr hbelr).at_ k p hp
      have hcp := hrg' 0 _ rfl
      simp only [Nat.mul_one, Nat.add_zero] at hcp
      have htk : zs.take (k + 1) = zs.take k ++ [Share.mk p x] := by
        have hz : zs[k]? = some (Share.mk p x) := by rw [Hzs.out, List.getElem?_zipWith, hp, hx]
        obtain ⟨h1, h2⟩ := List.getElem?_eq_some_iff.1 hz
        rw [List.take_succ_eq_append_getElem h1, h2]
      have hll : (shs ++ zs.take k).length ≤ 1000 := by
        rw [List.length_append]
        have := List.length_take_le k zs
        omega
      have Htk := Lib.hid htk; clear htk
      have Hx := Lib.hid hx; clear hx
      have Hp := Lib.hid hp; clear hp hcx hrg hrg' hb hb'
      have cr := hBr.cell
      have hmc : cap ≤ 9223372036854775807 := by have := (hL wr hbelr).max; unfold maxLen at this; omega
      have hnc := (hL wr hbelr).le
      go_wp2_with (fail)
      refine (gives_any B base price cart store m (rest - m) p x r s (.slice (some ⟨b, off, none⟩) n cap) lv' (shs ++ zs.take k) wr hBr hor hlt hbsr hll).mono ?_
      rintro e w5 ⟨rfl, lv5, hB5, ho5, hbel5, hoth, hown5⟩
      go_wp2_with (fail)
      go_roundw
      case rel =>
        refine ⟨k + 1, by omega, by go_num, ⟨lv5, hB5, ?_, ?_⟩, Nat.le_trans hbsr hbel5.size, hbelr.trans hbel5, ?_, Nat.le_trans hszr hbel5.size⟩
        · rw [Htk.out, ← List.append_assoc]; exact ho5
        · rcases hown5 with h | ⟨g, h, hg⟩
          · rw [h]; exact hgor
          · rw [h]; intro e; cases e; omega
        · rw [hoth gl (by omega) hgB hgor]; exact hglr
      case measure => simp [intOf]; omega
    · obtain rfl : k = n := by omega
      rw [List.take_of_length_le (by omega)] at hor
      go_wp2
      go_end0
      exact ⟨rfl, lv', hBr, hor, hbsr, hbelr⟩

end Go.Proofs.YtollegoajlfdiaaGreat

/-
  Walk: an award.
-/
namespace Go.Proofs.YtollegoajlfdiaaGreat
open Go.RowKit Lg Go.Sort Go.Shelf

/-- A call hands back an award, in memory of its own, or an error. -/
def GivesA (w : World) (r : Rate) (s : Sale) (fs : List Int) (e : Ending) (w' : World) : Prop :=
  RowKit.Below w.heap.size w w' ∧ if awOk r s fs = true then
    ∃ v ys, e = .returned (.tuple #[.agg #[.int .i64 s.price, .int .i64 (awCart r s), .int .i64 (awStore r s), .int .i64 (awFind r s), .int .i64 (awRest r s), v], .int .i64 0]) ∧
      ListOf (sumP (awRaw r s fs)) ys ∧ w'.ownsRow w.heap.size 69 2 v ys.length (ys.flatMap cSh)
  else e = .returned (.tuple #[.agg #[.int .i64 0, .int .i64 0, .int .i64 0, .int .i64 0, .int .i64 0, .slice none 0 0], .int .i64 1])

theorem indexF (a b c : Value) (w : World) : (Instr.index 105 (.agg #[a, b, c]) (.int .i64 0)).run Tryz.prog w = .ok a w ∧ (Instr.index 105 (.agg #[a, b, c]) (.int .i64 1)).run Tryz.prog w = .ok b w ∧ (Instr.index 105 (.agg #[a, b, c]) (.int .i64 2)).run Tryz.prog w = .ok c w :=
  ⟨by kernel_rfl, by kernel_rfl, by kernel_rfl⟩

abbrev cA0 : List Value := [.int .i64 0, .int .i64 0, .int .i64 0, .int .i64 0, .int .i64 0, .slice none 0 0]
theorem putA0 (w : World) (B : Nat) : ((((((w.setCell ⟨B, 0, none⟩ (.int .i64 0)).setCell ⟨B, 1, none⟩ (.int .i64 0)).setCell ⟨B, 2, none⟩ (.int .i64 0)).setCell ⟨B, 3, none⟩ (.int .i64 0)).setCell ⟨B, 4, none⟩ (.int .i64 0)).setCell ⟨B, 5, none⟩ (.slice none 0 0)) = w.setCells B 0 cA0 := rfl
theorem setAll_A0 : setAll cA0.toArray 0 cA0 = cA0.toArray := by kernel_rfl

theorem awarded_err {w w' : World} {r : Rate} {s : Sale} {fs : List Int} {tm : Array Value} (hA : Blk w' (w.heap.size + 1 + 1) cA0.toArray 59) (hb : RowKit.Below w.heap.size w w') (ho : awOk r s fs = false) (h6 : tm.getD 6 undef = .pointer (some ⟨w.heap.size + 1 + 1, 0, none⟩)) (h7 : tm.getD 7 undef = .int .i64 1) :
    bodyPost Tryz.prog Tryz.f37 (GivesA w r s fs) .ret { tmps := tm, defers := [] } (w'.setCells (w.heap.size + 1 + 1) 0 cA0) := by
  have hbl : Blk (w'.setCells (w.heap.size + 1 + 1) 0 cA0) (w.heap.size + 1 + 1) cA0.toArray 59 := by
    have := hA.setCells 0 cA0
    rw [setAll_A0] at this
    exact this
  refine bodyPost_ret (results_cell_tmp rfl tm _ (w.heap.size + 1 + 1) 59 cA0 _ h6 hbl Tryz.underlying59 rfl (by kernel_rfl)) rfl ?_
  refine ⟨below_setCells hb (by omega) _ _, ?_⟩
  rw [if_neg (by rw [ho]; simp), h7]

theorem putA (w : World) (B : Nat) (a b c d e : Int) (v : Value) : ((((((w.setCell ⟨B, 0, none⟩ (.int .i64 a)).setCell ⟨B, 1, none⟩ (.int .i64 b)).setCell ⟨B, 2, none⟩ (.int .i64 c)).setCell ⟨B, 3, none⟩ (.int .i64 d)).setCell ⟨B, 4, none⟩ (.int .i64 e)).setCell ⟨B, 5, none⟩ v) = w.setCells B 0 [.int .i64 a, .int .i64 b, .int .i64 c, .int .i64 d, .int .i64 e, v] := rfl
theorem setAll_A (a b c d e : Int) (v : Value) : setAll cA0.toArray 0 [.int .i64 a, .int .i64 b, .int .i64 c, .int .i64 d, .int .i64 e, v] = #[.int .i64 a, .int .i64 b, .int .i64 c, .int .i64 d, .int .i64 e, v] := by kernel_rfl

theorem own_setCells {W : World} {base B : Nat} {e : TypeId} {k : Nat} {v : Value} {n : Nat} {xs : List Value} (h : W.ownsRow base e k v n xs) (hB : B < base) (o : Nat) (vs : List Value) : (W.setCells B o vs).ownsRow base e k v n xs := by
  refine World.ownsRow.kept h (grownBy_setCells W B o vs) ?_
  cases hv : v.ownBlock with
  | none => exact .inl rfl
  | some g =>
    have := own_ge h g hv
    exact .inr (by simp; omega)

theorem awarded_fin {w w6 : World} {r : Rate} {s : Sale} {fs : List Int} {tm : Array Value} {B base : Nat} {v : Value} {ys : List Share} {c1 c2 c3 rest : Int} (hA : Blk w6 (w.heap.size + 1 + 1) cA0.toArray 59) (hb : RowKit.Below w.heap.size w w6) (ho : awOk r s fs = true)
    (hBA : w.heap.size + 1 + 1 < B) (hbase : B < base) (h1 : c1 = awCart r s) (h2 : c2 = awStore r s) (h3 : c3 = awFind r s) (h4 : rest = awRest r s) (hl : ListOf (sumP (awRaw r s fs)) ys) (hown : w6.ownsRow base 69 2 v ys.length (ys.flatMap cSh))
    (h6 : tm.getD 6 undef = .pointer (some ⟨w.heap.size + 1 + 1, 0, none⟩)) (h7 : tm.getD 7 undef = .int .i64 0) :
    bodyPost Tryz.prog Tryz.f37 (GivesA w r s fs) .ret { tmps := tm, defers := [] } ((w6.setCell ⟨B, 5, none⟩ v).setCells (w.heap.size + 1 + 1) 0 [.int .i64 s.price, .int .i64 c1, .int .i64 c2, .int .i64 c3, .int .i64 rest, v]) := by
  have hbl : Blk ((w6.setCell ⟨B, 5, none⟩ v).setCells (w.heap.size + 1 + 1) 0 [.int .i64 s.price, .int .i64 c1, .int .i64 c2, .int .i64 c3, .int .i64 rest, v]) (w.heap.size + 1 + 1) (#[.int .i64 s.price, .int .i64 c1, .int .i64 c2, .int .i64 c3, .int .i64 rest, v] : Array Value) 59 := by
    have := (hA.setCell_other (by omega : w.heap.size + 1 + 1 ≠ B) 5 v).setCells 0 [.int .i64 s.price, .int .i64 c1, .int .i64 c2, .int .i64 c3, .int .i64 rest, v]
    rw [setAll_A] at this
    exact this
  refine bodyPost_ret (results_cell_tmp rfl tm _ (w.heap.size + 1 + 1) 59 [.int .i64 s.price, .int .i64 c1, .int .i64 c2, .int .i64 c3, .int .i64 rest, v] _ h6 hbl Tryz.underlying59 rfl (by kernel_rfl)) rfl ?_
  refine ⟨below_setCells (hb.setCell (p := ⟨B, 5, none⟩) (by simp; omega) _) (by omega) _ _, ?_⟩
  rw [if_pos ho, h7, h1, h2, h3, h4]
  exact ⟨v, ys, rfl, hl, ownsRow_base_a (own_setCells (own_set hown hbase 5 v) (by omega) _ _) (by omega)⟩

set_option maxRecDepth 100000 in
set_option maxHeartbeats 1600000 in
theorem awarded_any (r : Rate) (s : Sale) (a : Option Addr) (n cap : Nat) (fs : List Int) (w : World) (hL : Lst w 1 cI a n cap fs) :
    Calls Tryz.prog 37 #[aR r, aS s, .slice a n cap] w (GivesA w r s fs) := by
  have hF := fun W => fees_any r s W
  have hP := fun W hW => parties_any a n cap fs W hW
  have hB1 : RowKit.Below w.heap.size w (((w.alloc (.cells #[.int .i64 r.id, .int .i64 r.known, .int .i64 r.from_, .string r.goods, .int .i64 r.finder.num, .int .i64 r.finder.den, .int .i64 r.cart, .int .i64 r.store, .int .i64 r.of_] 26)).alloc (.cells #[.int .i64 s.id, .int .i64 s.known, .int .i64 s.hour, .int .i64 s.parcel, .int .i64 s.price, .int .i64 s.carter, .int .i64 s.keeper, .int .i64 s.since, .int .i64 s.of_] 39)).alloc (.cells #[.int .i64 0, .int .i64 0, .int .i64 0, .int .i64 0, .int .i64 0, .slice none 0 0] 59)) := (((Below.refl _ w).alloc (Nat.le_refl _) _).alloc (by simp) _).alloc (by simp; omega) _
  have kR : Blk (((w.alloc (.cells #[.int .i64 r.id, .int .i64 r.known, .int .i64 r.from_, .string r.goods, .int .i64 r.finder.num, .int .i64 r.finder.den, .int .i64 r.cart, .int .i64 r.store, .int .i64 r.of_] 26)).alloc (.cells #[.int .i64 s.id, .int .i64 s.known, .int .i64 s.hour, .int .i64 s.parcel, .int .i64 s.price, .int .i64 s.carter, .int .i64 s.keeper, .int .i64 s.since, .int .i64 s.of_] 39)).alloc (.cells #[.int .i64 0, .int .i64 0, .int .i64 0, .int .i64 0, .int .i64 0, .slice none 0 0] 59)) w.heap.size #[.int .i64 r.id, .int .i64 r.known, .int .i64 r.from_, .string r.goods, .int .i64 r.finder.num, .int .i64 r.finder.den, .int .i64 r.cart, .int .i64 r.store, .int .i64 r.of_] 26 := ((Blk.new w _ _).alloc _).alloc _
  have kS : Blk (((w.alloc (.cells #[.int .i64 r.id, .int .i64 r.known, .int .i64 r.from_, .string r.goods, .int .i64 r.finder.num, .int .i64 r.finder.den, .int .i64 r.cart, .int .i64 r.store, .int .i64 r.of_] 26)).alloc (.cells #[.int .i64 s.id, .int .i64 s.known, .int .i64 s.hour, .int .i64 s.parcel, .int .i64 s.price, .int .i64 s.carter, .int .i64 s.keeper, .int .i64 s.since, .int .i64 s.of_] 39)).alloc (.cells #[.int .i64 0, .int .i64 0, .int .i64 0, .int .i64 0, .int .i64 0, .slice none 0 0] 59)) (w.heap.size + 1) #[.int .i64 s.id, .int .i64 s.known, .int .i64 s.hour, .int .i64 s.parcel, .int .i64 s.price, .int .i64 s.carter, .int .i64 s.keeper, .int .i64 s.since, .int .i64 s.of_] 39 := by
    have := (Blk.new (w.alloc (.cells #[.int .i64 r.id, .int .i64 r.known, .int .i64 r.from_, .string r.goods, .int .i64 r.finder.num, .int .i64 r.finder.den, .int .i64 r.cart, .int .i64 r.store, .int .i64 r.of_] 26)) 39 #[.int .i64 s.id, .int .i64 s.known, .int .i64 s.hour, .int .i64 s.parcel, .int .i64 s.price, .int .i64 s.carter, .int .i64 s.keeper, .int .i64 s.since, .int .i64 s.of_]).alloc (.cells #[.int .i64 0, .int .i64 0, .int .i64 0, .int .i64 0, .int .i64 0, .slice none 0 0] 59)
    simpa using this
  have kA : Blk (((w.alloc (.cells #[.int .i64 r.id, .int .i64 r.known, .int .i64 r.from_, .string r.goods, .int .i64 r.finder.num, .int .i64 r.finder.den, .int .i64 r.cart, .int .i64 r.store, .int .i64 r.of_] 26)).alloc (.cells #[.int .i64 s.id, .int .i64 s.known, .int .i64 s.hour, .int .i64 s.parcel, .int .i64 s.price, .int .i64 s.carter, .int .i64 s.keeper, .int .i64 s.since, .int .i64 s.of_] 39)).alloc (.cells #[.int .i64 0, .int .i64 0, .int .i64 0, .int .i64 0, .int .i64 0, .slice none 0 0] 59)) (w.heap.size + 1 + 1) #[.int .i64 0, .int .i64 0, .int .i64 0, .int .i64 0, .int .i64 0, .slice none 0 0] 59 := by
    have := Blk.new ((w.alloc (.cells #[.int .i64 r.id, .int .i64 r.known, .int .i64 r.from_, .string r.goods, .int .i64 r.finder.num, .int .i64 r.finder.den, .int .i64 r.cart, .int .i64 r.store, .int .i64 r.of_] 26)).alloc (.cells #[.int .i64 s.id, .int .i64 s.known, .int .i64 s.hour, .int .i64 s.parcel, .int .i64 s.price, .int .i64 s.carter, .int .i64 s.keeper, .int .i64 s.since, .int .i64 s.of_] 39)) 59 #[.int .i64 0, .int .i64 0, .int .i64 0, .int .i64 0, .int .i64 0, .slice none 0 0]
    simpa using this
  obtain ⟨q1, hq1⟩ : ∃ q, q = (feesOf r s).1.1 := ⟨_, rfl⟩
  obtain ⟨q2, hq2⟩ : ∃ q, q = (feesOf r s).1.2 := ⟨_, rfl⟩
  obtain ⟨q3, hq3⟩ : ∃ q, q = (feesOf r s).2 := ⟨_, rfl⟩
  rw [← hq1, ← hq2, ← hq3] at hF
  have hfr := hF (((w.alloc (.cells #[.int .i64 r.id, .int .i64 r.known, .int .i64 r.from_, .string r.goods, .int .i64 r.finder.num, .int .i64 r.finder.den, .int .i64 r.cart, .int .i64 r.store, .int .i64 r.of_] 26)).alloc (.cells #[.int .i64 s.id, .int .i64 s.known, .int .i64 s.hour, .int .i64 s.parcel, .int .i64 s.price, .int .i64 s.carter, .int .i64 s.keeper, .int .i64 s.since, .int .i64 s.of_] 39)).alloc (.cells #[.int .i64 0, .int .i64 0, .int .i64 0, .int .i64 0, .int .i64 0, .slice none 0 0] 59))
  clear hF
  go_enter Tryz.func37, Tryz.ntmps37
  go_wp2_with (fail)
  refine hfr.mono ?_
  clear hfr
  rintro e w2 ⟨rfl, hB2⟩
  have kR2 := kR.below' hB2
  have kS2 := kS.below' hB2
  have kA2 := kA.below' hB2
  have hb2 := hB1.trans (hB2.mono hB1.size)
  clear kR kS kA hB1
  by_cases h0 : q3 = 0
  · subst h0
    have Hq3 := Lib.hid hq3; clear hq3
    go_wp2_with (fail)
    refine (hP w2 (hL.below hb2)).mono ?_
    rintro e w3 ⟨rfl, hB3⟩
    have kR3 := kR2.below' hB3
    have kS3 := kS2.below' hB3
    have kA3 := kA2.below' hB3
    have hb3 := hb2.trans (hB3.mono hb2.size)
    clear kR2 kS2 kA2
    rcases Bool.eq_false_or_eq_true (partiesOk fs) with hp | hp
    · rw [hp]
      have Hp := Lib.hid hp; clear hp
      have cR := kR3.cell
      have cS := kS3.cell
      have cS4 : ∀ (o : Obj) (j : Nat), (w3.alloc o).cell? ⟨w.heap.size + 1, j, none⟩ = #[.int .i64 s.id, .int .i64 s.known, .int .i64 s.hour, .int .i64 s.parcel, .int .i64 s.price, .int .i64 s.carter, .int .i64 s.keeper, .int .i64 s.since, .int .i64 s.of_][j]? := fun o j => (kS3.alloc o).cell j
      have hls := kS3.lt
      go_wp2_with (fail)
      go_region
      have hq0 : (feesOf r s).2 = 0 := Hq3.out.symm
      obtain ⟨p1, p2, p3, p4, p5, p6, p7, p8, p9, p10, p11⟩ := fees_bounds hq0
      obtain ⟨a1, a2, a3, a4, a5, a6⟩ := aw_bounds hq0
      have hRB := awRaw_bounds hq0 Hp.out
      have hfb := partOk_bounds p11
      obtain ⟨w4, hw4⟩ : ∃ w4, w4 = (w3.alloc (.cells #[.int .i64 s.price, .int .i64 0, .int .i64 0, .int .i64 0, .int .i64 s.price, .slice none 0 0, .int .i64 r.id, .int .i64 r.known, .int .i64 r.from_, .string r.goods, .int .i64 r.finder.num, .int .i64 r.finder.den, .int .i64 r.cart, .int .i64 r.store, .int .i64 r.of_, .int .i64 s.id, .int .i64 s.known, .int .i64 s.hour, .int .i64 s.parcel, .int .i64 s.price, .int .i64 s.carter, .int .i64 s.keeper, .int .i64 s.since, .int .i64 s.of_, .slice a n cap, .slice none 0 0] 104)).drew := ⟨_, rfl⟩
      rw [← hw4]
      have kP : Blk w4 w3.heap.size #[.int .i64 s.price, .int .i64 0, .int .i64 0, .int .i64 0, .int .i64 s.price, .slice none 0 0, .int .i64 r.id, .int .i64 r.known, .int .i64 r.from_, .string r.goods, .int .i64 r.finder.num, .int .i64 r.finder.den, .int .i64 r.cart, .int .i64 r.store, .int .i64 r.of_, .int .i64 s.id, .int .i64 s.known, .int .i64 s.hour, .int .i64 s.parcel, .int .i64 s.price, .int .i64 s.carter, .int .i64 s.keeper, .int .i64 s.since, .int .i64 s.of_, .slice a n cap, .slice none 0 0] 104 := hw4 ▸ (Blk.new w3 _ _).drew
      have kA4 : Blk w4 (w.heap.size + 1 + 1) cA0.toArray 59 := hw4 ▸ (kA3.alloc _).drew
      have hb34 : RowKit.Below w3.heap.size w3 w4 := hw4 ▸ ((Below.refl _ w3).alloc (Nat.le_refl _) _).drew
      have hb4 : RowKit.Below w.heap.size w w4 := hb3.trans (hb34.mono hb3.size)
      have hltP := kP.lt
      have hltA := kA3.lt
      clear hw4 kR3 kS3 cR cS cS4 hls
      have hP0 : PotS w3.heap.size w4.heap.size w4 s.price 0 0 0 s.price r s (.slice a n cap) [] w4 := ⟨_, kP, ⟨rfl, .inl ⟨rfl, rfl⟩⟩, Nat.le_refl _, Below.refl _ _⟩
      generalize w3.heap.size = B at *
      have hmf : ∀ (fn : Fn) (first cap : Array Value) (w : World), (Instr.makeFunc fn first cap).run Tryz.prog w = .ok (.func fn first cap) w := fun _ _ _ _ => rfl
      have hix := indexF
      have eg1 : ∀ args w, (callFunc 75 args).run Tryz.prog w = .ok (.enter 75 args) w := enters_of Tryz.func75 (by kernel_rfl) rfl
      have eg2 : ∀ args w, (callFunc 76 args).run Tryz.prog w = .ok (.enter 76 args) w := enters_of Tryz.func76 (by kernel_rfl) rfl
      have eg3 : ∀ args w, (callFunc 77 args).run Tryz.prog w = .ok (.enter 77 args) w := enters_of Tryz.func77 (by kernel_rfl) rfl
      have hLf : ∀ W', RowKit.Below B w4 W' → Lst W' 1 cI a n cap fs := fun W' h => hL.below (hb4.trans (h.mono (by omega)))
      have hlen := hL.len
      obtain ⟨c1, hc1⟩ : ∃ c, c = awCart r s := ⟨_, rfl⟩
      obtain ⟨c2, hc2⟩ : ∃ c, c = awStore r s := ⟨_, rfl⟩
      obtain ⟨c3, hc3⟩ : ∃ c, c = awFind r s := ⟨_, rfl⟩
      have hraw : awRaw r s fs = [] ++ [Share.mk s.carter c1] ++ [Share.mk s.keeper c2] ++ List.zipWith Share.mk fs ((List.range n).map (eqVal c3 n)) := by rw [hc1, hc2, hc3, ← hlen]; rfl
      have hm1 : c1 = min (feesOf r s).1.1 s.price := hc1
      have hm2 : c2 = min (feesOf r s).1.2 (s.price - c1) := by rw [hc2, hc1]; rfl
      have hm3 : c3 = min ((s.price * r.finder.num).tdiv r.finder.den) (s.price - c1 - c2) := by rw [hc3, hc1, hc2]; rfl
      rw [← hc1, ← hc2, ← hc3] at a6
      rw [← hc1, ← hc2] at a4
      rw [← hc1] at a1 a2
      rw [← hc2] at a3
      rw [← hc3] at a5
      have Hm1 := Lib.hid hm1
      have Hm2 := Lib.hid hm2
      have Hm3 := Lib.hid hm3
      have Hc1 := Lib.hid hc1
      have Hc2 := Lib.hid hc2
      have Hc3 := Lib.hid hc3
      have Hraw := Lib.hid hraw
      have Hq0 := Lib.hid hq0
      clear hm1 hm2 hm3 hc1 hc2 hc3 hraw hq0
      go_wp2_with (fail)
      go_loopw [53] (fun i wr => ∃ k : Nat, k ≤ 3 ∧ i = .int .i64 k ∧ (k = 0 → PotS B w4.heap.size w4 s.price 0 0 0 s.price r s (.slice a n cap) [] wr) ∧
        (k = 1 → PotS B w4.heap.size w4 s.price c1 0 0 (s.price - c1) r s (.slice a n cap) ([] ++ [Share.mk s.carter c1]) wr) ∧
        (k = 2 → PotS B w4.heap.size w4 s.price c1 c2 0 (s.price - c1 - c2) r s (.slice a n cap) ([] ++ [Share.mk s.carter c1] ++ [Share.mk s.keeper c2]) wr) ∧
        (k = 3 → PotS B w4.heap.size w4 s.price c1 c2 c3 (s.price - c1 - c2 - c3) r s (.slice a n cap) (awRaw r s fs) wr)) (fun i _ => 3 - (intOf i).toNat)
      case atStart => exact ⟨0, Nat.zero_le _, rfl, fun _ => hP0, fun h => by omega, fun h => by omega, fun h => by omega⟩
      case round =>
        obtain ⟨k, hk, rfl, h0, h1, h2, h3⟩ := hrel
        have hkc : k = 0 ∨ k = 1 ∨ k = 2 ∨ k = 3 := by omega
        rcases hkc with rfl | rfl | rfl | rfl
        · have hS := h0 rfl
          clear h0 h1 h2 h3
          go_wp2_with (fail)
          refine (carting_any B w4.heap.size w4 s.price 0 0 0 s.price (feesOf r s).1.1 c1 r s (.slice a n cap) [] wr hS hltP (by simp) rfl ⟨p1, by omega⟩ ⟨by omega, by omega⟩ Hm1.out).mono ?_
          rintro e w5 ⟨rfl, hS5⟩
          go_wp2_with (fail)
          go_roundw
          case rel => exact ⟨1, by omega, by go_num, fun h => by omega, fun _ => hS5, fun h => by omega, fun h => by omega⟩
          case measure => simp [intOf]
        · have hS := h1 rfl
          clear h0 h1 h2 h3
          go_wp2_with (fail)
          refine (storing_any B w4.heap.size w4 s.price c1 0 0 (s.price - c1) (feesOf r s).1.2 c2 r s (.slice a n cap) _ wr hS hltP (by simp) rfl ⟨p3, by omega⟩ ⟨by omega, by omega⟩ Hm2.out).mono ?_
          rintro e w5 ⟨rfl, hS5⟩
          go_wp2_with (fail)
          go_roundw
          case rel => exact ⟨2, by omega, by go_num, fun h => by omega, fun h => by omega, fun _ => hS5, fun h => by omega⟩
          case measure => simp [intOf]
        · have hS := h2 rfl
          clear h0 h1 h2 h3
          go_wp2_with (fail)
          refine (finding_any B w4.heap.size w4 s.price c1 c2 0 (s.price - c1 - c2) c3 r s a n cap fs _ wr hS hltP (by simp) hLf Hp.out ⟨by omega, by omega⟩ hfb ⟨by omega, by omega⟩ Hm3.out).mono ?_
          rintro e w5 ⟨rfl, hS5⟩
          rw [← Hraw.out] at hS5
          go_wp2_with (fail)
          go_roundw
          case rel => exact ⟨3, by omega, by go_num, fun h => by omega, fun h => by omega, fun h => by omega, fun _ => hS5⟩
          case measure => simp [intOf]
        · have hS := h3 rfl
          clear h0 h1 h2 h3
          obtain ⟨lv, hBp, ho, hbs, hbel⟩ := hS
          obtain ⟨a5, cap5, rfl, hpl5, hL5⟩ := Lst.of_owns (k := 2) (enc := cSh) (fun _ => rfl) (by decide) ho rfl
          clear ho hpl5
          have hl5 : (awRaw r s fs).length ≤ 1100 := by
            unfold awRaw
            have hp := Hp.out
            unfold partiesOk at hp
            simp only [Bool.and_eq_true, inn_iff] at hp
            simp
            omega
          have hmg := merged_any a5 _ cap5 (awRaw r s fs) wr hl5 hL5 (fun x hx => by have := hRB x hx; omega)
          have cP := hBp.cell
          have hltB := hBp.lt
          go_wp2_with (fail)
          refine hmg.mono ?_
          clear hmg cP
          rintro e w6 ⟨v6, ys, rfl, hf6, ho6, hB6⟩
          have kP6 := hBp.below' hB6
          have kA6 := (kA4.below hbel hltA).below hB6 (by omega)
          have hb6 : RowKit.Below w.heap.size w w6 := (hb4.trans (hbel.mono (by omega))).trans (hB6.mono (by omega))
          have hs6 := hB6.size
          clear hBp hL5 hB6 kA4 kP kA3
          have cP := kP6.cell
          have fP := kP6.frozen
          have cA := kA6.cell
          have fA := kA6.frozen
          have hneA : w.heap.size + 1 + 1 ≠ B := by omega
          have ho6' := ho6
          obtain ⟨a6', cap6, rfl, _, _⟩ := Lst.of_owns (k := 2) (enc := cSh) (fun _ => rfl) (by decide) ho6' rfl
          clear ho6'
          obtain ⟨rest, hrest⟩ : ∃ rest, rest = s.price - c1 - c2 - c3 := ⟨_, rfl⟩
          have hrest2 : rest = awRest r s := by rw [hrest, Hc1.out, Hc2.out, Hc3.out]; rfl
          rw [← hrest] at cP kP6
          have Hrest := Lib.hid hrest2
          clear hrest hrest2
          go_wp2_with (fail)
          rw [putA]
          (try simp only [Exit.inBlock, Exit.then])
          exact awarded_fin kA6 hb6 (by unfold awOk; rw [← Hq3.out, Hp.out]; rfl) (by omega) hltB Hc1.out Hc2.out Hc3.out Hrest.out hf6 ho6 rfl rfl
    · rw [hp]
      have Hp := Lib.hid hp; clear hp
      have cA := kA3.cell
      have fA := kA3.frozen
      go_wp2_with (fail)
      rw [putA0]
      exact awarded_err kA3 hb3 (by unfold awOk; rw [Hp.out, Bool.and_false]) rfl rfl
  · have g0 : (q3 != 0) = true := by simpa using h0
    have Hq3 := Lib.hid hq3; clear hq3
    have H0 := Lib.hid h0; clear h0
    have cA := kA2.cell
    have fA := kA2.frozen
    go_wp2_with (fail)
    rw [putA0]
    exact awarded_err kA2 hb2 (by unfold awOk; rw [← Hq3.out, decide_eq_false H0.out, Bool.false_and]) rfl rfl

end Go.Proofs.YtollegoajlfdiaaGreat
