import Derived.Maps.OwnOps
import Derived.Test.YtmeomhojbobpbaaGreatDoorPart22
import Derived.Test.YtmeomhojbobpbaaGreatDoorPart05
import Derived.Test.YtmeomhojbobpbaaGreatDoorPart19
import Derived.Test.YtmeomhojbobpbaaGreatDoorPart23
import Derived.Test.YtmeomhojbobpbaaGreatDoorPart02
/-
  Look-ups in maps of the call's own: elements of type bool, and functions.
-/
namespace Go.Proofs.YtmeomhojbobpbaaGreatDoor
open Go.Maps (Keyed)

theorem plainElem_bool_invK {H : Type} {P : Program} {e : TypeId} (he : P.underlying e = some .bool) {v : Value} {y : DataW H × List MemPlace} (h : plainElem (H := H) P e v = some y) : ∃ c, v = .bool c ∧ y = (.lit (.bool c), []) := by
  unfold plainElem at h
  rw [he] at h
  cases v <;> simp at h
  rename_i c
  exact ⟨c, rfl, h.symm⟩

/-- m[k] (without ok) at elements of type bool. -/
theorem wpList_lookup_own_bool {H : Type} {P : Program} (w : World) {ops : Array Oper} {rest : List Oper} {o : Oper} {a : Act} {Q : Exit → Act → World → Prop}
    (hg : o.guard = none) (m x : Operand) (t : TypeId) (hop : o.op = Op.lookup t m x false)
    (k e : TypeId) (K : Keyed P k) (ht : P.underlying t = some (.map k e)) (he : P.underlying e = some .bool) (hz : (zeroValue e).run P w = .ok (.bool false) w) (b n : Nat) (D : DataW H)
    (hm : a.eval m = .map (some b)) (hown : w.ownsMap P k (plainElem P e) b n D) (key : Value) (kl : Lit) (hx : a.eval x = key) (hkey : keyOf P k key = some kl)
    (hK : ∀ c : Bool, D.atKey kl (.lit (.bool false)) = .lit (.bool c) → wpList P ops Q rest (a.put o.dst (.bool c)) w) :
    wpList P ops Q (o :: rest) a w := by
  obtain ⟨v, ps, hrun, hv⟩ := hown.lookup K ht hz (plainElem_bool he false) hkey
  obtain ⟨c, rfl, hc⟩ := plainElem_bool_invK he hv
  simp only [Prod.mk.injEq] at hc
  refine wpList_plain hg fun K' hK' => ?_
  unfold Oper.wp
  simp [execOp, hop, hm, hx, hrun, Result.andThen]
  exact hK' _ _ (hK c hc.1)

/-- How an element that is a function reads: by its number. -/
def fnElem {H : Type} (v : Value) : Option (DataW H × List MemPlace) :=
  match v with
  | .func (.func f) a b => if a.size = 0 ∧ b.size = 0 then some (.lit (.int .i64 f), []) else none
  | .nilFunc => some (.lit (.int .i64 (-1)), [])
  | _ => none

theorem fnElem_inv {H : Type} {v : Value} {f : Nat} {ps : List MemPlace} (h : fnElem (H := H) v = some (.lit (.int .i64 (f : Int)), ps)) : v = .func (.func f) #[] #[] := by
  unfold fnElem at h
  split at h
  · rename_i g a b
    split at h
    · rename_i hab
      simp only [Option.some.injEq, Prod.mk.injEq, DataW.lit.injEq, Lit.int.injEq, true_and] at h
      have : g = f := Int.ofNat.inj h.1
      rw [this, Array.eq_empty_of_size_eq_zero hab.1, Array.eq_empty_of_size_eq_zero hab.2]
    · cases h
  · simp only [Option.some.injEq, Prod.mk.injEq, DataW.lit.injEq, Lit.int.injEq, true_and] at h
    omega
  · cases h

/-- m[k] (without ok) at elements that are functions. -/
theorem wpList_lookup_own_fn {H : Type} {P : Program} (w : World) {ops : Array Oper} {rest : List Oper} {o : Oper} {a : Act} {Q : Exit → Act → World → Prop}
    (hg : o.guard = none) (m x : Operand) (t : TypeId) (hop : o.op = Op.lookup t m x false)
    (k e : TypeId) (K : Keyed P k) (ht : P.underlying t = some (.map k e)) (hz : (zeroValue e).run P w = .ok .nilFunc w) (b n : Nat) (D : DataW H)
    (hm : a.eval m = .map (some b)) (hown : w.ownsMap P k fnElem b n D) (key : Value) (kl : Lit) (hx : a.eval x = key) (hkey : keyOf P k key = some kl) (f : Nat)
    (hat : D.atKey kl (.lit (.int .i64 (-1))) = .lit (.int .i64 (f : Int))) (hK : wpList P ops Q rest (a.put o.dst (.func (.func f) #[] #[])) w) :
    wpList P ops Q (o :: rest) a w := by
  obtain ⟨v, ps, hrun, hv⟩ := hown.lookup K ht hz (zd := .lit (.int .i64 (-1))) (zp := []) rfl hkey
  rw [hat] at hv
  obtain rfl := fnElem_inv hv
  refine wpList_plain hg fun K' hK' => ?_
  unfold Oper.wp
  simp [execOp, hop, hm, hx, hrun, Result.andThen]
  exact hK' _ _ hK

/-- An entry of a map's literal. -/
theorem wpList_insert_own {H : Type} {P : Program} (w : World) {ops : Array Oper} {rest : List Oper} {o : Oper} {a : Act} {Q : Exit → Act → World → Prop}
    (hg : o.guard = none) (m x v : Operand) (t : TypeId) (hop : o.op = Op.insert t m x v)
    (k e : TypeId) (K : Keyed P k) (ht : P.underlying t = some (.map k e)) (R : Value → Option (DataW H × List MemPlace)) (b n : Nat) (D : DataW H)
    (hm : a.eval m = .map (some b)) (hown : w.ownsMap P k R b n D) (hn : n < maxLen) (key val : Value) (kl : Lit) (hx : a.eval x = key) (hv : a.eval v = val) (hkey : keyOf P k key = some kl)
    (d : DataW H) (ps : List MemPlace) (hval : R val = some (d, ps))
    (hK : ∀ w', w'.ownsMap P k R b (n + 1) (D.put kl d) → w.grownBy w' (some b) → wpList P ops Q rest (a.put o.dst undef) w') :
    wpList P ops Q (o :: rest) a w := by
  refine wpList_plain hg fun K' hK' => ?_
  obtain ⟨w', hrun, r1, r2⟩ := hown.update K ht hn hkey hval
  unfold Oper.wp
  simp [execOp, hop, hm, hx, hv, hrun, Result.andThen]
  exact hK' _ _ (hK w' r1 r2)

end Go.Proofs.YtmeomhojbobpbaaGreatDoor

/-
  Walks: the orders of fractions (claim.orders, a map of functions) and Compare.
-/
namespace Go.Proofs.YtmeomhojbobpbaaGreatDoor
open Go.RowKit Lg Go.Sort Go.Shelf Go.Maps

def valueL : List UInt8 := [118, 97, 108, 117, 101]
theorem lawW : Keyed Tryz.prog 9 := string_keyed Tryz.underlying9
theorem zeroOrd (w : World) : (zeroValue 106).run Tryz.prog w = .ok .nilFunc w := by kernel_rfl
/-- What the map of orders holds. -/
def OrdD : DataW Unit := (DataW.map []).put (.string valueL) (.lit (.int .i64 (149 : Nat)))
theorem key_value : keyOf Tryz.prog 9 (.string ⟨#[118, 97, 108, 117, 101]⟩) = some (.string valueL) := by kernel_rfl

set_option maxRecDepth 100000 in
set_option maxHeartbeats 800000 in
theorem ordersD_any (w : World) : Calls Tryz.prog 94 #[] w fun e w' => e = .returned (.map (some w.heap.size)) ∧ w'.ownsMap Tryz.prog 9 fnElem w.heap.size 1 OrdD ∧ RowKit.Below w.heap.size w w' := by
  have hmade := World.ownsMap_made (H := Unit) w Tryz.prog 9 fnElem
  have hB : RowKit.Below w.heap.size w (w.alloc (.map #[] 0)) := (Below.refl _ w).alloc (Nat.le_refl _) _
  have hmm : ∀ W : World, (Instr.makeMap 107 none).run Tryz.prog W = .ok (.map (some W.heap.size)) (W.alloc (.map #[] 0)) := fun W => run_makeMap _ W
  go_enter Tryz.func94, Tryz.ntmps94
  go_wp2_with (first
    | (refine wpList_insert_own _ rfl _ _ _ 107 rfl 9 106 lawW Tryz.underlying107 fnElem w.heap.size 0 (.map []) rfl hmade (by unfold maxLen; omega) _ _ (.string valueL) rfl rfl key_value (.lit (.int .i64 (149 : Nat))) [] rfl ?_; intro w2 hown2 hg2; have hB2 := hB.grown hg2 (by simp) (fun k e => by cases e; omega))
    | fail)
  go_ret
  exact ⟨rfl, hown2, hB2⟩

theorem own_ord {w : World} {b : Nat} (h : w.ownsMap Tryz.prog 9 fnElem b 1 OrdD) : (Instr.lookup 107 (.map (some b)) (.string ⟨#[118, 97, 108, 117, 101]⟩) false).run Tryz.prog w = .ok (.func (.func 149) #[] #[]) w := by
  obtain ⟨v, ps, hrun, hv⟩ := h.lookup lawW Tryz.underlying107 (zeroOrd w) (zd := .lit (.int .i64 (-1))) (zp := []) rfl key_value
  rw [show OrdD.atKey (.string valueL) (.lit (.int .i64 (-1))) = .lit (.int .i64 (149 : Nat)) by kernel_rfl] at hv
  rw [hrun, fnElem_inv hv]

set_option maxRecDepth 100000 in
set_option maxHeartbeats 1600000 in
theorem ord1_any (a b : Frac) (ha : frOk a) (hb : frOk b) (w : World) : Calls Tryz.prog 149 #[aF a, aF b] w (Gives w (.int .i64 (Lib.compareInt (a.num * b.den) (b.num * a.den)))) := by
  obtain ⟨a1, a2, a3, a4⟩ := ha
  obtain ⟨b1, b2, b3, b4⟩ := hb
  obtain ⟨p1, p2⟩ := mul_bound a1 a2 b3 b4
  obtain ⟨q1, q2⟩ := mul_bound b1 b2 a3 a4
  have hcm := fun W => Tryz.cmp_Compare_int (a.num * b.den) (b.num * a.den) W
  have hB : RowKit.Below w.heap.size w ((w.alloc (.cells #[.int .i64 a.num, .int .i64 a.den] 83)).alloc (.cells #[.int .i64 b.num, .int .i64 b.den] 83)) := ((Below.refl _ w).alloc (Nat.le_refl _) _).alloc (by simp) _
  go_enter Tryz.func149, Tryz.ntmps149
  go_wp2_with (go_at_call 75; refine (hcm _).mono ?_; rintro e w3 ⟨rfl, rfl⟩)
  go_ret
  exact ⟨rfl, hB⟩

end Go.Proofs.YtmeomhojbobpbaaGreatDoor

/-
  Walks: what deeds do, by their kinds (claim.kinds, a map of functions).
-/
namespace Go.Proofs.YtmeomhojbobpbaaGreatDoor
open Go.RowKit Lg Go.Sort Go.Shelf Go.Maps

theorem lawU8 : Keyed Tryz.prog 5 := int_keyed Tryz.underlying5
theorem zeroKind (w : World) : (zeroValue 194).run Tryz.prog w = .ok .nilFunc w := by kernel_rfl
/-- What the map of kinds holds. -/
def KindD : DataW Unit := (((DataW.map []).put (.int .u8 1) (.lit (.int .i64 (211 : Nat)))).put (.int .u8 2) (.lit (.int .i64 (211 : Nat)))).put (.int .u8 3) (.lit (.int .i64 (212 : Nat)))
theorem key_u1 : keyOf Tryz.prog 5 (.int .u8 1) = some (.int .u8 1) := by kernel_rfl
theorem key_u2 : keyOf Tryz.prog 5 (.int .u8 2) = some (.int .u8 2) := by kernel_rfl
theorem key_u3 : keyOf Tryz.prog 5 (.int .u8 3) = some (.int .u8 3) := by kernel_rfl

set_option maxRecDepth 100000 in
set_option maxHeartbeats 800000 in
theorem kindsD_any (w : World) : Calls Tryz.prog 183 #[] w fun e w' => e = .returned (.map (some w.heap.size)) ∧ w'.ownsMap Tryz.prog 5 fnElem w.heap.size 3 KindD ∧ RowKit.Below w.heap.size w w' := by
  have hmade := World.ownsMap_made (H := Unit) w Tryz.prog 5 fnElem
  have hB : RowKit.Below w.heap.size w (w.alloc (.map #[] 0)) := (Below.refl _ w).alloc (Nat.le_refl _) _
  have hmm : ∀ W : World, (Instr.makeMap 195 none).run Tryz.prog W = .ok (.map (some W.heap.size)) (W.alloc (.map #[] 0)) := fun W => run_makeMap _ W
  go_enter Tryz.func183, Tryz.ntmps183
  go_wp2_with (first
    | (refine wpList_insert_own _ rfl _ (.const (.int .u8 1)) _ 195 rfl 5 194 lawU8 Tryz.underlying195 fnElem w.heap.size 0 (.map []) rfl hmade (by unfold maxLen; omega) _ _ (.int .u8 1) rfl rfl key_u1 (.lit (.int .i64 (211 : Nat))) [] rfl ?_; intro w2 hown2 hg2; have hB2 := hB.grown hg2 (by simp) (fun k e => by cases e; omega))
    | (refine wpList_insert_own _ rfl _ (.const (.int .u8 2)) _ 195 rfl 5 194 lawU8 Tryz.underlying195 fnElem w.heap.size 1 _ rfl hown2 (by unfold maxLen; omega) _ _ (.int .u8 2) rfl rfl key_u2 (.lit (.int .i64 (211 : Nat))) [] rfl ?_; intro w3 hown3 hg3; have hB3 := hB2.grown hg3 hB2.size (fun k e => by cases e; omega))
    | (refine wpList_insert_own _ rfl _ (.const (.int .u8 3)) _ 195 rfl 5 194 lawU8 Tryz.underlying195 fnElem w.heap.size 2 _ rfl hown3 (by unfold maxLen; omega) _ _ (.int .u8 3) rfl rfl key_u3 (.lit (.int .i64 (212 : Nat))) [] rfl ?_; intro w4 hown4 hg4; have hB4 := hB3.grown hg4 hB3.size (fun k e => by cases e; omega))
    | fail)
  go_ret
  exact ⟨rfl, hown4, hB4⟩

theorem own_kind {w : World} {b : Nat} (h : w.ownsMap Tryz.prog 5 fnElem b 3 KindD) (k : Int) (F : Nat) (hK : keyOf Tryz.prog 5 (.int .u8 k) = some (.int .u8 k)) (hk : KindD.atKey (.int .u8 k) (.lit (.int .i64 (-1))) = .lit (.int .i64 (F : Int))) :
    (Instr.lookup 195 (.map (some b)) (.int .u8 k) false).run Tryz.prog w = .ok (.func (.func F) #[] #[]) w := by
  obtain ⟨v, ps, hrun, hv⟩ := h.lookup lawU8 Tryz.underlying195 (zeroKind w) (zd := .lit (.int .i64 (-1))) (zp := []) rfl hK
  rw [hk] at hv
  rw [hrun, fnElem_inv hv]

theorem kind_at1 : KindD.atKey (.int .u8 1) (.lit (.int .i64 (-1))) = .lit (.int .i64 (211 : Nat)) := by kernel_rfl
theorem kind_at2 : KindD.atKey (.int .u8 2) (.lit (.int .i64 (-1))) = .lit (.int .i64 (211 : Nat)) := by kernel_rfl
theorem kind_at3 : KindD.atKey (.int .u8 3) (.lit (.int .i64 (-1))) = .lit (.int .i64 (212 : Nat)) := by kernel_rfl

end Go.Proofs.YtmeomhojbobpbaaGreatDoor

/-
  Walks: a deed done ((*claim.shares).do).
-/
namespace Go.Proofs.YtmeomhojbobpbaaGreatDoor
open Go.RowKit Lg Go.Sort Go.Shelf Go.Maps

/-- What moves shares, at any shares of the caller's own. -/
def Moves (F : Nat) (x : Deed) (s s' : List Frac) : Prop :=
  ∀ (W : World) (bn : Nat), Blk W bn (cSs s) 113 → Calls Tryz.prog F #[.pointer (some ⟨bn, 0, none⟩), aD x] W fun e w' => e = .returned (.tuple #[]) ∧ Blk w' bn (cSs s') 113 ∧ W.grownBy w' (some bn)

theorem setAll_cons (cs : List Value) : ∀ (pre : List Value) (zs : List Value), zs.length = cs.length → setAll (pre ++ zs).toArray pre.length cs = (pre ++ cs).toArray := by
  induction cs with
  | nil => intro pre zs h; rw [List.length_nil] at h; rw [List.eq_nil_of_length_eq_zero h]; rfl
  | cons c cs ih =>
    intro pre zs h
    cases zs with
    | nil => cases h
    | cons z zs =>
      rw [setAll, List.setIfInBounds_toArray]
      have e : (pre ++ z :: zs).set pre.length c = (pre ++ [c]) ++ zs := by simp
      rw [e]
      have := ih (pre ++ [c]) zs (by simpa using h)
      rw [List.length_append] at this
      simpa using this

theorem setAll_whole (zs cs : List Value) (h : zs.length = cs.length) : setAll zs.toArray 0 cs = cs.toArray := by
  have := setAll_cons cs [] zs h
  simpa using this

theorem cSs_size (s : List Frac) (h : s.length = 41) : (cSs s).size = 82 := by
  simp only [List.size_toArray]; rw [flat_len cF 2 (fun _ => rfl), h]
theorem cF_one (x : Frac) : ∀ u ∈ cF x, u.oneCell' = true := by simp [cF, Value.oneCell']
theorem cSs_one (s : List Frac) : (cSs s).all (·.oneCell') = true := by
  rw [Array.all_eq_true]
  intro j hj
  exact flat_one cF cF_one s _ (by simp)

set_option maxRecDepth 100000 in
set_option maxHeartbeats 1600000 in
theorem do1_k1 (s s' : List Frac) (i kn ho lo pa : Int) (ff tt : Nat) (sn sd o : Int) (bx bn : Nat) (w : World) (hX : Blk w bx #[.int .i64 i, .int .i64 kn, .int .i64 ho, .int .u8 1, .int .i64 lo, .int .i64 pa, .int .i64 ff, .int .i64 tt, .int .i64 sn, .int .i64 sd, .int .i64 o] 36) (hN : Blk w bn (cSs s) 113)
    (hF : Moves 211 ⟨i, kn, ho, 1, lo, pa, (ff : Int), (tt : Int), ⟨sn, sd⟩, o⟩ s s') :
    Calls Tryz.prog 182 #[.pointer (some ⟨bx, 0, none⟩), .pointer (some ⟨bn, 0, none⟩)] w fun e w' => e = .returned (.tuple #[]) ∧ Blk w' bn (cSs s') 113 ∧ w.grownBy w' (some bn) := by
  have eF : Ent 211 := enters_of Tryz.func211 (by kernel_rfl) rfl
  have hne : bx ≠ bn := hX.other hN (by decide)
  have HO := Lib.hid (fun W (h : RowKit.Below w.heap.size w W) => (kindsD_any W).mono (R' := fun e w' => ∃ B, e = .returned (.map (some B)) ∧ (Instr.lookup 195 (.map (some B)) (.int .u8 1) false).run Tryz.prog w' = .ok (.func (.func 211) #[] #[]) w' ∧ RowKit.Below W.heap.size W w' ∧ RowKit.Below w.heap.size w w') fun _ _ q => ⟨_, q.1, own_kind q.2.1 1 _ key_u1 kind_at1, q.2.2, h.trans (q.2.2.mono h.size)⟩)
  have HF := Lib.hid (fun W (h : RowKit.Below w.heap.size w W) => (hF W bn (hN.below' h)).mono (R' := fun e w' => e = .returned (.tuple #[]) ∧ Blk w' bn (cSs s') 113 ∧ w.grownBy w' (some bn) ∧ ∀ j, w'.cell? ⟨bx, j, none⟩ = #[.int .i64 i, .int .i64 kn, .int .i64 ho, .int .u8 1, .int .i64 lo, .int .i64 pa, .int .i64 ff, .int .i64 tt, .int .i64 sn, .int .i64 sd, .int .i64 o][j]?) fun _ _ q => ⟨q.1, q.2.1, grown_trans (grown_of_below _ h) q.2.2, ((hX.below' h).kept q.2.2 (by simpa using hne)).cell⟩)
  have HS := Lib.hid (fun W (h : RowKit.Below w.heap.size w W) => (hX.below' h).cell)
  clear hF hX hN hne
  go_enter Tryz.func182, Tryz.ntmps182
  go_region_held3 (fun w' => ∀ j, w'.cell? ⟨bx, j, none⟩ = #[.int .i64 i, .int .i64 kn, .int .i64 ho, .int .u8 1, .int .i64 lo, .int .i64 pa, .int .i64 ff, .int .i64 tt, .int .i64 sn, .int .i64 sd, .int .i64 o][j]?)
    (first | (with_reducible assumption) | ((with_reducible refine HS.out _ ?_); repeat (first | (with_reducible assumption) | (with_reducible exact Below.refl _ _) | (with_reducible refine Below.alloc ?_ ?_ _) | (with_reducible refine Below.setCell ?_ ?_ _) | (with_reducible refine Below.drew ?_) | omega | (simp <;> omega) | (dsimp only; omega))))
    (first
      | (go_at_call 183; (with_reducible refine (HO.out _ (by repeat (first | (with_reducible assumption) | (with_reducible exact Below.refl _ _) | (with_reducible refine Below.alloc ?_ ?_ _) | (with_reducible refine Below.setCell ?_ ?_ _) | (with_reducible refine Below.drew ?_) | omega | (simp <;> omega) | (dsimp only; omega)))).mono ?_); rintro e w3 ⟨Bm, rfl, hlk, hBa, hba⟩; have hsa := hba.size)
      | (go_at_call 211; (with_reducible refine (HF.out _ (by repeat (first | (with_reducible assumption) | (with_reducible exact Below.refl _ _) | (with_reducible refine Below.alloc ?_ ?_ _) | (with_reducible refine Below.setCell ?_ ?_ _) | (with_reducible refine Below.drew ?_) | omega | (simp <;> omega) | (dsimp only; omega)))).mono ?_); rintro e w4 ⟨rfl, hk4, hg4, hx4⟩)
      | fail)
  all_goals
    go_wp2_with fail
    go_end0
    exact ⟨rfl, hk4, hg4⟩

set_option maxRecDepth 100000 in
set_option maxHeartbeats 1600000 in
theorem do1_k2 (s s' : List Frac) (i kn ho lo pa : Int) (ff tt : Nat) (sn sd o : Int) (bx bn : Nat) (w : World) (hX : Blk w bx #[.int .i64 i, .int .i64 kn, .int .i64 ho, .int .u8 2, .int .i64 lo, .int .i64 pa, .int .i64 ff, .int .i64 tt, .int .i64 sn, .int .i64 sd, .int .i64 o] 36) (hN : Blk w bn (cSs s) 113)
    (hF : Moves 211 ⟨i, kn, ho, 2, lo, pa, (ff : Int), (tt : Int), ⟨sn, sd⟩, o⟩ s s') :
    Calls Tryz.prog 182 #[.pointer (some ⟨bx, 0, none⟩), .pointer (some ⟨bn, 0, none⟩)] w fun e w' => e = .returned (.tuple #[]) ∧ Blk w' bn (cSs s') 113 ∧ w.grownBy w' (some bn) := by
  have eF : Ent 211 := enters_of Tryz.func211 (by kernel_rfl) rfl
  have hne : bx ≠ bn := hX.other hN (by decide)
  have HO := Lib.hid (fun W (h : RowKit.Below w.heap.size w W) => (kindsD_any W).mono (R' := fun e w' => ∃ B, e = .returned (.map (some B)) ∧ (Instr.lookup 195 (.map (some B)) (.int .u8 2) false).run Tryz.prog w' = .ok (.func (.func 211) #[] #[]) w' ∧ RowKit.Below W.heap.size W w' ∧ RowKit.Below w.heap.size w w') fun _ _ q => ⟨_, q.1, own_kind q.2.1 2 _ key_u2 kind_at2, q.2.2, h.trans (q.2.2.mono h.size)⟩)
  have HF := Lib.hid (fun W (h : RowKit.Below w.heap.size w W) => (hF W bn (hN.below' h)).mono (R' := fun e w' => e = .returned (.tuple #[]) ∧ Blk w' bn (cSs s') 113 ∧ w.grownBy w' (some bn) ∧ ∀ j, w'.cell? ⟨bx, j, none⟩ = #[.int .i64 i, .int .i64 kn, .int .i64 ho, .int .u8 2, .int .i64 lo, .int .i64 pa, .int .i64 ff, .int .i64 tt, .int .i64 sn, .int .i64 sd, .int .i64 o][j]?) fun _ _ q => ⟨q.1, q.2.1, grown_trans (grown_of_below _ h) q.2.2, ((hX.below' h).kept q.2.2 (by simpa using hne)).cell⟩)
  have HS := Lib.hid (fun W (h : RowKit.Below w.heap.size w W) => (hX.below' h).cell)
  clear hF hX hN hne
  go_enter Tryz.func182, Tryz.ntmps182
  go_region_held3 (fun w' => ∀ j, w'.cell? ⟨bx, j, none⟩ = #[.int .i64 i, .int .i64 kn, .int .i64 ho, .int .u8 2, .int .i64 lo, .int .i64 pa, .int .i64 ff, .int .i64 tt, .int .i64 sn, .int .i64 sd, .int .i64 o][j]?)
    (first | (with_reducible assumption) | ((with_reducible refine HS.out _ ?_); repeat (first | (with_reducible assumption) | (with_reducible exact Below.refl _ _) | (with_reducible refine Below.alloc ?_ ?_ _) | (with_reducible refine Below.setCell ?_ ?_ _) | (with_reducible refine Below.drew ?_) | omega | (simp <;> omega) | (dsimp only; omega))))
    (first
      | (go_at_call 183; (with_reducible refine (HO.out _ (by repeat (first | (with_reducible assumption) | (with_reducible exact Below.refl _ _) | (with_reducible refine Below.alloc ?_ ?_ _) | (with_reducible refine Below.setCell ?_ ?_ _) | (with_reducible refine Below.drew ?_) | omega | (simp <;> omega) | (dsimp only; omega)))).mono ?_); rintro e w3 ⟨Bm, rfl, hlk, hBa, hba⟩; have hsa := hba.size)
      | (go_at_call 211; (with_reducible refine (HF.out _ (by repeat (first | (with_reducible assumption) | (with_reducible exact Below.refl _ _) | (with_reducible refine Below.alloc ?_ ?_ _) | (with_reducible refine Below.setCell ?_ ?_ _) | (with_reducible refine Below.drew ?_) | omega | (simp <;> omega) | (dsimp only; omega)))).mono ?_); rintro e w4 ⟨rfl, hk4, hg4, hx4⟩)
      | fail)
  all_goals
    go_wp2_with fail
    go_end0
    exact ⟨rfl, hk4, hg4⟩

set_option maxRecDepth 100000 in
set_option maxHeartbeats 1600000 in
theorem do1_k3 (s s' : List Frac) (i kn ho lo pa : Int) (ff tt : Nat) (sn sd o : Int) (bx bn : Nat) (w : World) (hX : Blk w bx #[.int .i64 i, .int .i64 kn, .int .i64 ho, .int .u8 3, .int .i64 lo, .int .i64 pa, .int .i64 ff, .int .i64 tt, .int .i64 sn, .int .i64 sd, .int .i64 o] 36) (hN : Blk w bn (cSs s) 113)
    (hF : Moves 212 ⟨i, kn, ho, 3, lo, pa, (ff : Int), (tt : Int), ⟨sn, sd⟩, o⟩ s s') :
    Calls Tryz.prog 182 #[.pointer (some ⟨bx, 0, none⟩), .pointer (some ⟨bn, 0, none⟩)] w fun e w' => e = .returned (.tuple #[]) ∧ Blk w' bn (cSs s') 113 ∧ w.grownBy w' (some bn) := by
  have eF : Ent 212 := enters_of Tryz.func212 (by kernel_rfl) rfl
  have hne : bx ≠ bn := hX.other hN (by decide)
  have HO := Lib.hid (fun W (h : RowKit.Below w.heap.size w W) => (kindsD_any W).mono (R' := fun e w' => ∃ B, e = .returned (.map (some B)) ∧ (Instr.lookup 195 (.map (some B)) (.int .u8 3) false).run Tryz.prog w' = .ok (.func (.func 212) #[] #[]) w' ∧ RowKit.Below W.heap.size W w' ∧ RowKit.Below w.heap.size w w') fun _ _ q => ⟨_, q.1, own_kind q.2.1 3 _ key_u3 kind_at3, q.2.2, h.trans (q.2.2.mono h.size)⟩)
  have HF := Lib.hid (fun W (h : RowKit.Below w.heap.size w W) => (hF W bn (hN.below' h)).mono (R' := fun e w' => e = .returned (.tuple #[]) ∧ Blk w' bn (cSs s') 113 ∧ w.grownBy w' (some bn) ∧ ∀ j, w'.cell? ⟨bx, j, none⟩ = #[.int .i64 i, .int .i64 kn, .int .i64 ho, .int .u8 3, .int .i64 lo, .int .i64 pa, .int .i64 ff, .int .i64 tt, .int .i64 sn, .int .i64 sd, .int .i64 o][j]?) fun _ _ q => ⟨q.1, q.2.1, grown_trans (grown_of_below _ h) q.2.2, ((hX.below' h).kept q.2.2 (by simpa using hne)).cell⟩)
  have HS := Lib.hid (fun W (h : RowKit.Below w.heap.size w W) => (hX.below' h).cell)
  clear hF hX hN hne
  go_enter Tryz.func182, Tryz.ntmps182
  go_region_held3 (fun w' => ∀ j, w'.cell? ⟨bx, j, none⟩ = #[.int .i64 i, .int .i64 kn, .int .i64 ho, .int .u8 3, .int .i64 lo, .int .i64 pa, .int .i64 ff, .int .i64 tt, .int .i64 sn, .int .i64 sd, .int .i64 o][j]?)
    (first | (with_reducible assumption) | ((with_reducible refine HS.out _ ?_); repeat (first | (with_reducible assumption) | (with_reducible exact Below.refl _ _) | (with_reducible refine Below.alloc ?_ ?_ _) | (with_reducible refine Below.setCell ?_ ?_ _) | (with_reducible refine Below.drew ?_) | omega | (simp <;> omega) | (dsimp only; omega))))
    (first
      | (go_at_call 183; (with_reducible refine (HO.out _ (by repeat (first | (with_reducible assumption) | (with_reducible exact Below.refl _ _) | (with_reducible refine Below.alloc ?_ ?_ _) | (with_reducible refine Below.setCell ?_ ?_ _) | (with_reducible refine Below.drew ?_) | omega | (simp <;> omega) | (dsimp only; omega)))).mono ?_); rintro e w3 ⟨Bm, rfl, hlk, hBa, hba⟩; have hsa := hba.size)
      | (go_at_call 212; (with_reducible refine (HF.out _ (by repeat (first | (with_reducible assumption) | (with_reducible exact Below.refl _ _) | (with_reducible refine Below.alloc ?_ ?_ _) | (with_reducible refine Below.setCell ?_ ?_ _) | (with_reducible refine Below.drew ?_) | omega | (simp <;> omega) | (dsimp only; omega)))).mono ?_); rintro e w4 ⟨rfl, hk4, hg4, hx4⟩)
      | fail)
  all_goals
    go_wp2_with fail
    go_end0
    exact ⟨rfl, hk4, hg4⟩

/-- What a kind does. -/
def kindF (kd : Int) (F : Nat) : Prop := (kd = 1 ∧ F = 211) ∨ (kd = 2 ∧ F = 211) ∨ (kd = 3 ∧ F = 212)

theorem do1_any (kd : Int) (F : Nat) (hkF : kindF kd F) (s s' : List Frac) (i kn ho lo pa : Int) (ff tt : Nat) (sn sd o : Int) (bx bn : Nat) (w : World) (hX : Blk w bx #[.int .i64 i, .int .i64 kn, .int .i64 ho, .int .u8 kd, .int .i64 lo, .int .i64 pa, .int .i64 ff, .int .i64 tt, .int .i64 sn, .int .i64 sd, .int .i64 o] 36) (hN : Blk w bn (cSs s) 113)
    (hF : Moves F ⟨i, kn, ho, kd, lo, pa, (ff : Int), (tt : Int), ⟨sn, sd⟩, o⟩ s s') :
    Calls Tryz.prog 182 #[.pointer (some ⟨bx, 0, none⟩), .pointer (some ⟨bn, 0, none⟩)] w fun e w' => e = .returned (.tuple #[]) ∧ Blk w' bn (cSs s') 113 ∧ w.grownBy w' (some bn) := by
  rcases hkF with ⟨rfl, rfl⟩ | ⟨rfl, rfl⟩ | ⟨rfl, rfl⟩
  · exact do1_k1 s s' i kn ho lo pa ff tt sn sd o bx bn w hX hN hF
  · exact do1_k2 s s' i kn ho lo pa ff tt sn sd o bx bn w hX hN hF
  · exact do1_k3 s s' i kn ho lo pa ff tt sn sd o bx bn w hX hN hF

set_option maxRecDepth 100000 in
set_option maxHeartbeats 1600000 in
theorem doD_zero (s : List Frac) (i kn ho kd lo pa : Int) (ff tt : Nat) (sn sd o : Int) (B : Nat) (w : World) (hs : s.length = 41) (hk : Blk w B (cSs s) 113) (hf : ff < 41) (fa : Frac) (hfa : fa = fr s (ff : Int)) (h0 : fa.num = 0) :
    Calls Tryz.prog 152 #[.pointer (some ⟨B, 0, none⟩), (aD ⟨i, kn, ho, kd, lo, pa, (ff : Int), (tt : Int), ⟨sn, sd⟩, o⟩)] w (Gives w (.bool false)) := by
  have R0 : w.cell? ⟨B, ff * 2, none⟩ = some (.int .i64 fa.num) := by rw [hfa]; exact cell_share hk ff (by omega) 0 _ rfl
  have hBl := hk.lt
  have g0 : (fa.num == 0) = true := by simpa using h0
  clear hfa h0 hk
  obtain ⟨w1, hw1⟩ : ∃ w0, w0 = w.alloc (.cells #[.int .i64 i, .int .i64 kn, .int .i64 ho, .int .u8 kd, .int .i64 lo, .int .i64 pa, .int .i64 ff, .int .i64 tt, .int .i64 sn, .int .i64 sd, .int .i64 o] 36) := ⟨_, rfl⟩
  have kX : Blk w1 w.heap.size #[.int .i64 i, .int .i64 kn, .int .i64 ho, .int .u8 kd, .int .i64 lo, .int .i64 pa, .int .i64 ff, .int .i64 tt, .int .i64 sn, .int .i64 sd, .int .i64 o] 36 := hw1 ▸ Blk.new _ _ _
  have hB1 : RowKit.Below w.heap.size w w1 := hw1 ▸ (Below.refl _ w).alloc (Nat.le_refl _) _
  have R1 : w1.cell? ⟨B, ff * 2, none⟩ = some (.int .i64 fa.num) := (hB1.cell (p := ⟨B, ff * 2, none⟩) hBl).trans R0
  clear R0
  have hz0 : (0 : Int) ≤ (ff : Int) := by omega
  have hz1 : (ff : Int) < 41 := by omega
  go_enter Tryz.func152, Tryz.ntmps152
  go_upto_region 1 with fail
  rw [← hw1]
  clear hw1
  obtain ⟨bx, hbx⟩ : ∃ b, b = w.heap.size := ⟨_, rfl⟩
  rw [← hbx] at kX ⊢
  clear hbx hs
  have HS : ∀ W, RowKit.Below w1.heap.size w1 W → W.cell? ⟨bx, 6, none⟩ = some (.int .i64 ff) ∧ W.cell? ⟨B, ff * 2, none⟩ = some (.int .i64 fa.num) := fun W h => ⟨(kX.below' h).cell 6, (h.cell (p := ⟨B, ff * 2, none⟩) (Nat.lt_of_lt_of_le hBl hB1.size)).trans R1⟩
  have HS := Lib.hid HS
  clear R1 kX hBl
  go_region_held3 (fun w' => w'.cell? ⟨bx, 6, none⟩ = some (.int .i64 ff) ∧ w'.cell? ⟨B, ff * 2, none⟩ = some (.int .i64 fa.num))
    (((with_reducible refine HS.out _ ?_); repeat (first | (with_reducible assumption) | (with_reducible exact Below.refl _ _) | (with_reducible refine Below.alloc ?_ ?_ _) | (with_reducible refine Below.setCell ?_ ?_ _) | (with_reducible refine Below.drew ?_) | omega | (simp <;> omega) | (dsimp only; omega))))
    (fail)
  all_goals
    go_wp2_with fail
    go_ret
    exact ⟨rfl, hB1.trans (RowKit.Below.mono (by repeat (first | (with_reducible assumption) | (with_reducible exact Below.refl _ _) | (with_reducible refine Below.alloc ?_ ?_ _) | (with_reducible refine Below.setCell ?_ ?_ _) | (with_reducible refine Below.drew ?_) | omega | (simp <;> omega) | (dsimp only; omega))) hB1.size)⟩

set_option maxRecDepth 100000 in
set_option maxHeartbeats 3200000 in
theorem doD_ok (kd : Int) (F : Nat) (hkF : kindF kd F) (s s' : List Frac) (i kn ho lo pa : Int) (ff tt : Nat) (sn sd o : Int) (B : Nat) (w : World) (hs : s.length = 41) (hs' : s'.length = 41) (hk : Blk w B (cSs s) 113) (hf : ff < 41) (fa : Frac) (hfa : fa = fr s (ff : Int)) (h0 : fa.num ≠ 0)
    (hF : Moves F ⟨i, kn, ho, kd, lo, pa, (ff : Int), (tt : Int), ⟨sn, sd⟩, o⟩ s s') :
    Calls Tryz.prog 152 #[.pointer (some ⟨B, 0, none⟩), (aD ⟨i, kn, ho, kd, lo, pa, (ff : Int), (tt : Int), ⟨sn, sd⟩, o⟩)] w fun e w' => e = .returned (.bool true) ∧ Blk w' B (cSs s') 113 ∧ w.grownBy w' (some B) := by
  have R0 : w.cell? ⟨B, ff * 2, none⟩ = some (.int .i64 fa.num) := by rw [hfa]; exact cell_share hk ff (by omega) 0 _ rfl
  have hBl := hk.lt
  have g0 : (fa.num == 0) = false := by simpa using h0
  have eg : ∀ args w, (callFunc 182 args).run Tryz.prog w = .ok (.enter 182 args) w := enters_of Tryz.func182 (by kernel_rfl) rfl
  have hmf : ∀ (fn : Fn) (first cap : Array Value) (w : World), (Instr.makeFunc fn first cap).run Tryz.prog w = .ok (.func fn first cap) w := fun _ _ _ _ => rfl
  clear hfa h0
  obtain ⟨w1, hw1⟩ : ∃ w0, w0 = w.alloc (.cells #[.int .i64 i, .int .i64 kn, .int .i64 ho, .int .u8 kd, .int .i64 lo, .int .i64 pa, .int .i64 ff, .int .i64 tt, .int .i64 sn, .int .i64 sd, .int .i64 o] 36) := ⟨_, rfl⟩
  have kX : Blk w1 w.heap.size #[.int .i64 i, .int .i64 kn, .int .i64 ho, .int .u8 kd, .int .i64 lo, .int .i64 pa, .int .i64 ff, .int .i64 tt, .int .i64 sn, .int .i64 sd, .int .i64 o] 36 := hw1 ▸ Blk.new _ _ _
  have hB1 : RowKit.Below w.heap.size w w1 := hw1 ▸ (Below.refl _ w).alloc (Nat.le_refl _) _
  have R1 : w1.cell? ⟨B, ff * 2, none⟩ = some (.int .i64 fa.num) := (hB1.cell (p := ⟨B, ff * 2, none⟩) hBl).trans R0
  have kS := hk.below' hB1
  clear R0 hk
  have hz0 : (0 : Int) ≤ (ff : Int) := by omega
  have hz1 : (ff : Int) < 41 := by omega
  go_enter Tryz.func152, Tryz.ntmps152
  go_upto_region 1 with fail
  rw [← hw1]
  clear hw1
  obtain ⟨bx, hbx⟩ : ∃ b, b = w.heap.size := ⟨_, rfl⟩
  have hbl : B < bx := by omega
  rw [← hbx] at kX ⊢
  have Hbx := Lib.hid hbx
  clear hbx
  have HS : ∀ W, RowKit.Below w1.heap.size w1 W → W.cell? ⟨bx, 6, none⟩ = some (.int .i64 ff) ∧ W.cell? ⟨B, ff * 2, none⟩ = some (.int .i64 fa.num) := fun W h => ⟨(kX.below' h).cell 6, (h.cell (p := ⟨B, ff * 2, none⟩) (Nat.lt_of_lt_of_le hBl hB1.size)).trans R1⟩
  have HS := Lib.hid HS
  clear R1
  go_cut [13] (fun c13 W => c13 = .bool false ∧ RowKit.Below w1.heap.size w1 W)
  case first =>
    clear kX kS hF eg hmf hkF hs hs'
    go_region_held3 (fun w' => w'.cell? ⟨bx, 6, none⟩ = some (.int .i64 ff) ∧ w'.cell? ⟨B, ff * 2, none⟩ = some (.int .i64 fa.num))
      (((with_reducible refine HS.out _ ?_); repeat (first | (with_reducible assumption) | (with_reducible exact Below.refl _ _) | (with_reducible refine Below.alloc ?_ ?_ _) | (with_reducible refine Below.setCell ?_ ?_ _) | (with_reducible refine Below.drew ?_) | omega | (simp <;> omega) | (dsimp only; omega))))
      (fail)
    all_goals
      go_wp2_with fail
      go_meet
      exact ⟨rfl, by repeat (first | (with_reducible assumption) | (with_reducible exact Below.refl _ _) | (with_reducible refine Below.alloc ?_ ?_ _) | (with_reducible refine Below.setCell ?_ ?_ _) | (with_reducible refine Below.drew ?_) | omega | (simp <;> omega) | (dsimp only; omega))⟩
  case rest =>
    obtain ⟨rfl, hBc⟩ := hcut
    have kX2 := kX.below' hBc
    have kS2 := kS.below' hBc
    have hB2 := hB1.trans (hBc.mono hB1.size)
    obtain ⟨w2, hw2⟩ : ∃ w2, w2 = wc := ⟨_, rfl⟩
    rw [← hw2] at kX2 kS2 hB2 ⊢
    clear hw2 kX kS hBc hB1 HS hz0 hz1 hf g0
    have hsz : ∀ l : List Frac, l.length = 41 → (Tryz.prog.info? 113).map (·.size) = some (l.flatMap cF).length := fun l hl => by rw [flat_len cF 2 (fun _ => rfl), hl]; kernel_rfl
    have hsz2 : ∀ l : List Frac, l.length = 41 → (Tryz.prog.info? 113).map (·.size) = some (cSs l).size := fun l hl => by rw [cSs_size l hl]; kernel_rfl
    have kz := Blk.new w2 113 Tryz.zeroCells113
    have hz82 : Tryz.zeroCells113.size = 82 := by kernel_rfl
    obtain ⟨w3, hw3⟩ : ∃ w3, w3 = (w2.alloc (.cells Tryz.zeroCells113 113)).setCells w2.heap.size 0 (cSs s).toList := ⟨_, rfl⟩
    have kN : Blk w3 w2.heap.size (cSs s) 113 := by
      rw [hw3]
      have q := kz.setCells 0 (s.flatMap cF)
      have e : setAll Tryz.zeroCells113 0 (s.flatMap cF) = cSs s := by
        have := setAll_whole Tryz.zeroCells113.toList (s.flatMap cF) (by rw [flat_len cF 2 (fun _ => rfl), hs, Array.length_toList, hz82])
        rwa [Array.toArray_toList] at this
      rwa [e] at q
    have hB23 : RowKit.Below w2.heap.size w2 w3 := by
      rw [hw3]
      exact below_setCells ((Below.refl _ w2).alloc (Nat.le_refl _) _) (Nat.le_refl _) 0 _
    have kX3 := kX2.below' hB23
    have kS3 := kS2.below' hB23
    have hB3 := hB2.trans (hB23.mono hB2.size)
    have hlt := kX2.lt
    have hlb := kS2.lt
    have hkz : w2.heap.size < w3.heap.size := kN.lt
    have hr := ranged_ok 182 #[.pointer (some ⟨bx, 0, none⟩), .pointer (some ⟨w2.heap.size, 0, none⟩)] eg w3 (fun w' => Blk w' w2.heap.size (cSs s') 113 ∧ (w3.alloc (.cells #[.int .i64 0] 26)).grownBy w' (some w2.heap.size)) (by
      refine (do1_any kd F hkF s s' i kn ho lo pa ff tt sn sd o bx w2.heap.size (w3.alloc (.cells #[.int .i64 0] 26)) (kX3.alloc _) (kN.alloc _) hF).mono ?_
      rintro e w' ⟨rfl, h1, h2⟩
      exact ⟨rfl, (Blk.new w3 _ _).kept h2 (by simp; omega), h1, h2⟩)
    rw [hw3] at hr
    go_wp2_with (first
      | (refine wpList_load_mid rfl 113 _ rfl B 0 rfl (s.flatMap cF) _ (kS2.range 0 _ (fun j v h => by simpa using h)) Tryz.underlying113 rfl (hsz s hs) ?_)
      | (refine wpList_store_mid rfl 113 _ _ rfl w2.heap.size 0 (cSs s) rfl rfl (kz.there 0 _ (by rw [cSs_size s hs, hz82]; omega)) (hsz2 s hs) (cSs_one s) ?_)
      | fail)
    refine hr.mono ?_
    clear hr
    rw [← hw3]
    rintro e w5 ⟨rfl, w4, ⟨k4, hg4⟩, rfl⟩
    have hsz4 : w3.heap.size < w4.heap.size := by have := hg4.size; simp at this; omega
    have hB4 : RowKit.Below w.heap.size w w4 := (hB3.alloc hB3.size _).grown hg4 (by have := hB3.size; simp; omega) (fun k e => by cases e; exact hB2.size)
    have kS4 := (kS3.alloc (.cells #[.int .i64 0] 26)).kept hg4 (by simp; omega)
    obtain ⟨w5, hw5⟩ : ∃ w5, w5 = w4.setCell ⟨w3.heap.size, 0, none⟩ (.int .i64 0) := ⟨_, rfl⟩
    rw [← hw5]
    have k5 : Blk w5 w2.heap.size (cSs s') 113 := hw5 ▸ k4.setCell_other (by omega) 0 _
    have kS5 : Blk w5 B (cSs s) 113 := hw5 ▸ kS4.setCell_other (by omega) 0 _
    have hB5 : RowKit.Below w.heap.size w w5 := hw5 ▸ hB4.setCell (p := ⟨w3.heap.size, 0, none⟩) (by have := hB3.size; simp; omega) _
    clear hw5 hw3 kz kN kX3 kS3 kS4 k4 hg4 hB4 hB3 hB23 kX2 kS2 hkz
    go_wp2_with (first
      | (refine wpList_load_mid rfl 113 _ rfl w2.heap.size 0 rfl (s'.flatMap cF) _ (k5.range 0 _ (fun j v h => by simpa using h)) Tryz.underlying113 rfl (hsz s' hs') ?_)
      | (refine wpList_store_mid rfl 113 _ _ rfl B 0 (cSs s') rfl rfl (kS5.there 0 _ (by rw [cSs_size s hs, cSs_size s' hs']; omega)) (hsz2 s' hs') (cSs_one s') ?_)
      | fail)
    go_ret
    refine ⟨rfl, ?_, grown_trans (grown_of_below _ hB5) (grownBy_setCells w5 B 0 _)⟩
    have q := kS5.setCells 0 (s'.flatMap cF)
    have e : setAll (cSs s) 0 (s'.flatMap cF) = cSs s' := setAll_whole (s.flatMap cF) (s'.flatMap cF) (by rw [flat_len cF 2 (fun _ => rfl), flat_len cF 2 (fun _ => rfl), hs, hs'])
    rwa [e] at q

end Go.Proofs.YtmeomhojbobpbaaGreatDoor
