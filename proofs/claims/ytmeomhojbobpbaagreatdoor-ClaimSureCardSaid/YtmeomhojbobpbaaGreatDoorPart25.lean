import Derived.Test.YtmeomhojbobpbaaGreatDoorPart20
import Derived.Test.YtmeomhojbobpbaaGreatDoorPart08
/-
  Plain law: a payment and one directly behind it have the effect of one of both.
-/
namespace Lg
open Go

theorem cnt_snoc {l ms : List Deed} {K : Int} (hm : ∀ m ∈ ms, m.kind ≠ 6 ∧ m.known ≤ K ∧ ∀ v ∈ l, v.kind = 6 → v.of_ ≠ m.id) : cntD (l ++ ms) K = cntD l K ++ ms := by
  have hany : ∀ x : Deed, (l ++ ms).any (voidsD x K) = l.any (voidsD x K) := fun x => by
    rw [List.any_append]
    have : ms.any (voidsD x K) = false := by
      rw [List.any_eq_false]
      intro m h
      unfold voidsD
      rw [decide_eq_false (hm m h).1]
      simp
    rw [this, Bool.or_false]
  unfold cntD
  rw [List.filter_append]
  congr 1
  · refine List.filter_congr fun x _ => ?_
    unfold countsD
    rw [hany]
  · rw [List.filter_eq_self]
    intro m h
    obtain ⟨h1, h2, h3⟩ := hm m h
    unfold countsD
    rw [hany, decide_eq_false h1, decide_eq_true h2]
    have : l.any (voidsD m K) = false := by
      rw [List.any_eq_false]
      intro v hv
      unfold voidsD
      intro e
      simp only [Bool.and_eq_true, decide_eq_true_eq] at e
      exact h3 v hv e.1.1 e.1.2
    rw [this]; rfl

theorem of_snoc {l ms : List Deed} {loss pack K : Int} (hm : ∀ m ∈ ms, m.kind ≠ 6 ∧ m.known ≤ K ∧ ∀ v ∈ l, v.kind = 6 → v.of_ ≠ m.id) (ho : ∀ m ∈ ms, m.kind = 1 ∧ m.loss = loss ∧ m.pack = pack) :
    ofPack (l ++ ms) loss pack K = ofPack l loss pack K ++ ms := by
  unfold ofPack
  rw [cnt_snoc hm, List.foldl_append]
  generalize (cntD l K).foldl (ofStep loss pack) ([], []) = st
  clear hm
  induction ms generalizing st with
  | nil => simp
  | cons m r ih =>
    obtain ⟨h1, h2, h3⟩ := ho m List.mem_cons_self
    rw [List.foldl_cons, ih (fun m h => ho m (List.mem_cons_of_mem _ h))]
    have e : ofStep loss pack st m = (st.1, st.2 ++ [m]) := by
      unfold ofStep
      rw [decide_eq_true h2, decide_eq_true h3, decide_eq_false (show ¬ m.kind = 4 by omega)]
      simp
    rw [e]
    simp

theorem insH_mem (l : List Deed) (x : Deed) : ∀ w, w ∈ insH l x ↔ w = x ∨ w ∈ l := by
  induction l with
  | nil => intro w; simp [insH]
  | cons y r ih =>
    intro w
    unfold insH
    split
    · simp
    · rw [List.mem_cons, ih]; simp; constructor
      · rintro (h | h | h) <;> simp [h]
      · rintro (h | h | h) <;> simp [h]

theorem byHour_acc (l : List Deed) : ∀ acc w, w ∈ l.foldl insH acc ↔ w ∈ l ∨ w ∈ acc := by
  induction l with
  | nil => intro acc w; simp
  | cons x r ih =>
    intro acc w
    rw [List.foldl_cons, ih, insH_mem, List.mem_cons]
    constructor
    · rintro (h | h | h) <;> simp [h]
    · rintro ((h | h) | h) <;> simp [h]

theorem byHour_mem {l : List Deed} {w : Deed} : w ∈ byHourD l ↔ w ∈ l := by
  unfold byHourD
  rw [byHour_acc]; simp

theorem insH_end (l : List Deed) (x : Deed) (h : ∀ w ∈ l, w.hour ≤ x.hour) : insH l x = l ++ [x] := by
  induction l with
  | nil => rfl
  | cons y r ih =>
    unfold insH
    rw [if_neg (by have := h y List.mem_cons_self; omega), ih (fun w hw => h w (List.mem_cons_of_mem _ hw))]
    rfl

theorem byHour_snoc {l : List Deed} {x : Deed} (h : ∀ w ∈ l, w.hour ≤ x.hour) : byHourD (l ++ [x]) = byHourD l ++ [x] := by
  have : byHourD (l ++ [x]) = insH (byHourD l) x := by unfold byHourD; rw [List.foldl_append]; rfl
  rw [this, insH_end _ _ (fun w hw => h w (byHour_mem.1 hw))]

theorem claimed_snoc {l ms : List Deed} (h : ∀ m ∈ ms, m.kind = 1) (d : Int) : claimedD (l ++ ms) d = claimedD l d := by
  have hg : ∀ x : Deed, (l ++ ms).any (goneD x d) = l.any (goneD x d) := fun x => by
    rw [List.any_append]
    have : ms.any (goneD x d) = false := by
      rw [List.any_eq_false]
      intro m hm
      unfold goneD
      rw [decide_eq_false (show ¬ m.kind = 5 by have := h m hm; omega)]; simp
    rw [this, Bool.or_false]
  unfold claimedD
  rw [List.filter_append]
  have e2 : ms.filter (claimsD (l ++ ms) d) = [] := by
    rw [List.filter_eq_nil_iff]
    intro m hm
    unfold claimsD
    rw [decide_eq_false (show ¬ m.kind = 4 by have := h m hm; omega)]; simp
  have e1 : l.filter (claimsD (l ++ ms) d) = l.filter (claimsD l d) := List.filter_congr fun x _ => by unfold claimsD; rw [hg]
  rw [e1, e2, List.append_nil]

/-! ### Two runs over the same deeds -/

def lapR (cl : List Int) (dl hr : Int) (r : Run) : Option Run := if r.lapsed = false ∧ dl < hr then (lapseD cl r.s).map fun s => ({ r with s := s, lapsed := true } : Run) else some r
def mvR (h : Int) (r : Run) (x : Deed) : Run :=
  if movesD x.kind = true ∧ x.hour ≤ h then
    match doD r.s x with
    | some s => { r with s := s }
    | none => { r with idle := r.idle ++ [x.id] }
  else r
theorem doneStep_eq (cl : List Int) (dl h : Int) (r : Run) (x : Deed) : doneStep cl dl h (some r) x = (lapR cl dl x.hour r).map fun r => mvR h r x := rfl
theorem doneStep_none (cl : List Int) (dl h : Int) (x : Deed) : doneStep cl dl h none x = none := rfl
theorem fold_none (cl : List Int) (dl h : Int) (ws : List Deed) : ws.foldl (doneStep cl dl h) none = none := by
  induction ws with
  | nil => rfl
  | cons x r ih => rw [List.foldl_cons, doneStep_none, ih]

/-- Two runs that differ in whether the deadline's end is still to come, which is not met. -/
def RelR (X dl : Int) (r r' : Run) : Prop := r.s = r'.s ∧ r.idle = r'.idle ∧ (r.lapsed = r'.lapsed ∨ X ≤ dl)
def RelO (X dl : Int) : Option Run → Option Run → Prop
  | some r, some r' => RelR X dl r r'
  | none, none => True
  | _, _ => False

theorem rel_step {X dl h h' : Int} {cl : List Int} {r r' : Run} {x : Deed} (hx : x.hour ≤ X) (h1 : X ≤ h) (h2 : X ≤ h') (hr : RelR X dl r r') : RelO X dl (doneStep cl dl h (some r) x) (doneStep cl dl h' (some r') x) := by
  rw [doneStep_eq, doneStep_eq]
  obtain ⟨e1, e2, e3⟩ := hr
  have hc : (r.lapsed = false ∧ dl < x.hour) ↔ (r'.lapsed = false ∧ dl < x.hour) := by
    rcases e3 with e3 | e3
    · rw [e3]
    · constructor <;> (rintro ⟨_, q⟩; omega)
  have hmv : ∀ {a b : Run}, RelR X dl a b → RelR X dl (mvR h a x) (mvR h' b x) := by
    rintro a b ⟨f1, f2, f3⟩
    unfold mvR
    have g1 : x.hour ≤ h := by omega
    have g2 : x.hour ≤ h' := by omega
    by_cases hm : movesD x.kind = true
    · rw [if_pos ⟨hm, g1⟩, if_pos ⟨hm, g2⟩, f1]
      cases doD b.s x with
      | none => exact ⟨rfl, by simp [f2], f3⟩
      | some s => exact ⟨rfl, f2, f3⟩
    · rw [if_neg (fun q => hm q.1), if_neg (fun q => hm q.1)]
      exact ⟨f1, f2, f3⟩
  unfold lapR
  by_cases c : r.lapsed = false ∧ dl < x.hour
  · rw [if_pos c, if_pos (hc.1 c), e1]
    cases lapseD cl r'.s with
    | none => exact trivial
    | some s => exact hmv ⟨rfl, e2, .inl rfl⟩
  · rw [if_neg c, if_neg (fun q => c (hc.2 q))]
    exact hmv ⟨e1, e2, e3⟩

theorem rel_fold {X dl h h' : Int} {cl : List Int} (h1 : X ≤ h) (h2 : X ≤ h') (ws : List Deed) (hw : ∀ w ∈ ws, w.hour ≤ X) : ∀ o o' : Option Run, RelO X dl o o' → RelO X dl (ws.foldl (doneStep cl dl h) o) (ws.foldl (doneStep cl dl h') o') := by
  induction ws with
  | nil => intro o o' ho; exact ho
  | cons x r ih =>
    intro o o' ho
    rw [List.foldl_cons, List.foldl_cons]
    refine ih (fun w hw' => hw w (List.mem_cons_of_mem _ hw')) _ _ ?_
    cases o with
    | none => cases o' with
      | none => exact trivial
      | some _ => cases ho
    | some a => cases o' with
      | none => cases ho
      | some b => exact rel_step (hw x List.mem_cons_self) h1 h2 ho

def startR (owner dl h : Int) : Run := ⟨begunD owner, [], decide (dl < 0) || decide (h ≤ dl)⟩
theorem rel_start {X dl h h' owner : Int} (h1 : X ≤ h) (h2 : X ≤ h') : RelR X dl (startR owner dl h) (startR owner dl h') := by
  refine ⟨rfl, rfl, ?_⟩
  by_cases a : dl < 0
  · left; simp [startR, a]
  · by_cases b : h ≤ dl
    · right; omega
    · by_cases c : h' ≤ dl
      · right; omega
      · left; simp [startR, a, b, c]

theorem done_eq (l : List Deed) (owner dl h : Int) : doneD l owner dl h = doneStep (claimedD l dl) dl h ((byHourD l).foldl (doneStep (claimedD l dl) dl h) (some (startR owner dl h))) farD := by
  unfold doneD
  rw [List.foldl_append]; rfl

/-- The last step moves nothing. -/
theorem far_step {cl : List Int} {dl h : Int} {o : Option Run} {r : Run} (he : doneStep cl dl h o farD = some r) : ∃ r0, o = some r0 ∧ r0.idle = r.idle := by
  cases o with
  | none => cases he
  | some r0 =>
    refine ⟨r0, rfl, ?_⟩
    rw [doneStep_eq] at he
    have hm : ∀ a : Run, mvR h a farD = a := fun a => by unfold mvR; rw [if_neg (by rintro ⟨q, _⟩; revert q; decide)]
    unfold lapR at he
    split at he
    · cases hl : lapseD cl r0.s with
      | none => rw [hl] at he; cases he
      | some s =>
        rw [hl] at he
        simp only [Option.map_some, hm, Option.some.injEq] at he
        rw [← he]
    · simp only [Option.map_some, hm, Option.some.injEq] at he
      rw [← he]

/-! ### Purses stay right -/

theorem validF_zero : validF ⟨0, 1⟩ = true := by decide
theorem validF_one : validF ⟨1, 1⟩ = true := by decide

theorem begun_ok (owner : Int) : PurseOk (begunD owner) := by
  unfold begunD
  refine PurseOk.set ⟨by simp, fun f hf => ?_⟩ _ validF_one
  rw [List.eq_of_mem_replicate hf]; exact validF_zero

theorem lapse_ok (cl : List Int) : ∀ (ps : List Nat), (∀ p ∈ ps, p ≤ 40) → ∀ s s', PurseOk s → ps.foldl (lapseStep cl) (some s) = some s' → PurseOk s' := by
  have hn : ∀ ps : List Nat, ps.foldl (lapseStep cl) none = none := fun ps => by
    induction ps with
    | nil => rfl
    | cons p r ih => rw [List.foldl_cons]; exact ih
  intro ps
  induction ps with
  | nil => intro _ s s' h e; injection e with e; rw [← e]; exact h
  | cons p r ih =>
    intro hp s s' h e
    rw [List.foldl_cons] at e
    have hp40 := hp p List.mem_cons_self
    cases ho : lapseStep cl (some s) p with
    | none => rw [ho, hn] at e; cases e
    | some t =>
      rw [ho] at e
      refine ih (fun q hq => hp q (List.mem_cons_of_mem _ hq)) t s' ?_ e
      unfold lapseStep at ho
      simp only [Option.bind_some] at ho
      split at ho
      · injection ho with ho; rw [← ho]; exact h
      · cases hq : plusO (fr s 0) (fr s p) with
        | none => rw [hq] at ho; cases ho
        | some c =>
          rw [hq] at ho
          simp only [Option.bind_some, Option.some.injEq] at ho
          rw [← ho]
          exact (h.set _ (plusO_Q (fr_mem h (by omega) (by omega)) (fr_mem h (by omega) (by omega)) hq).1).set _ validF_zero

/-- What moves shares does it as it may. -/
def MoveOk (x : Deed) : Prop := movesD x.kind = true → (0 ≤ x.from_ ∧ x.from_ ≤ 40) ∧ (0 ≤ x.to_ ∧ x.to_ ≤ 40) ∧ (x.kind ≠ 3 → validF x.share = true)

theorem do_ok {s s' : List Frac} {x : Deed} (h : PurseOk s) (hx : MoveOk x) (hm : movesD x.kind = true) (e : doD s x = some s') : PurseOk s' := by
  obtain ⟨h1, h2, h3⟩ := hx hm
  unfold doD at e
  split at e
  · cases e
  unfold moveD at e
  split at e
  · unfold leaveD at e
    cases hq : plusO (fr s x.to_) (fr s x.from_) with
    | none => rw [hq] at e; cases e
    | some c =>
      rw [hq] at e
      simp only [Option.bind_some, Option.some.injEq] at e
      rw [← e]
      exact (h.set _ validF_zero).set _ (plusO_Q (fr_mem h h2.1 h2.2) (fr_mem h h1.1 h1.2) hq).1
  · rename_i hk
    obtain ⟨a, b, rfl, va, vb, _⟩ := takeD_Q h (h3 hk) h1 h2 e
    exact (h.set _ va).set _ vb

theorem step_ok {cl : List Int} {dl h : Int} {r r' : Run} {x : Deed} (hr : PurseOk r.s) (hx : MoveOk x) (e : doneStep cl dl h (some r) x = some r') : PurseOk r'.s := by
  rw [doneStep_eq] at e
  have hm : ∀ a : Run, PurseOk a.s → PurseOk (mvR h a x).s := fun a ha => by
    unfold mvR
    split
    · rename_i hq
      cases hd : doD a.s x with
      | none => exact ha
      | some s => exact do_ok ha hx hq.1 hd
    · exact ha
  unfold lapR at e
  split at e
  · cases hl : lapseD cl r.s with
    | none => rw [hl] at e; cases e
    | some s =>
      rw [hl] at e
      simp only [Option.map_some, Option.some.injEq] at e
      rw [← e]
      refine hm _ ?_
      exact lapse_ok cl _ (fun p hp => by rw [List.mem_range'_1] at hp; omega) _ _ hr hl
  · simp only [Option.map_some, Option.some.injEq] at e
    rw [← e]
    exact hm _ hr

theorem fold_ok {cl : List Int} {dl h : Int} (ws : List Deed) (hw : ∀ w ∈ ws, MoveOk w) : ∀ (r r' : Run), PurseOk r.s → ws.foldl (doneStep cl dl h) (some r) = some r' → PurseOk r'.s := by
  induction ws with
  | nil => intro r r' hp e; injection e with e; rw [← e]; exact hp
  | cons x ws ih =>
    intro r r' hp e
    rw [List.foldl_cons] at e
    cases hd : doneStep cl dl h (some r) x with
    | none => rw [hd] at e; rw [fold_none] at e; cases e
    | some r1 =>
      rw [hd] at e
      exact ih (fun w q => hw w (List.mem_cons_of_mem _ q)) r1 r' (step_ok hp (hw x List.mem_cons_self) hd) e

theorem formed_move {x : Deed} (h : formedD x = true) : MoveOk x := fun hm => by
  obtain ⟨_, _, _, _, _, h6, h7, _⟩ := formedD_all h
  refine ⟨h6, h7, fun h3 => ?_⟩
  unfold formedD at h
  simp only [Bool.and_eq_true] at h
  have h4 := h.1.2
  unfold movesD at hm
  simp only [Bool.or_eq_true, decide_eq_true_eq] at hm
  have hk : x.kind = 1 ∨ x.kind = 2 := by omega
  unfold fineD at h4
  rw [if_pos hk] at h4
  simp only [Bool.and_eq_true] at h4
  exact h4.1.1.2

/-! ### The law -/

theorem late_le {l : List Deed} (h : (checkDeeds l).2 = 0) {x : Deed} (hf : followsD l x = 0) : ∀ w ∈ l, w.known ≤ x.known := by
  -- the last of a register is known at last
  have key : ∀ l : List Deed, (checkDeeds l).2 = 0 → ∀ y, l.getLast? = some y → ∀ w ∈ l, w.known ≤ y.known := by
    intro l
    generalize hn : l.length = n
    induction n generalizing l with
    | zero => intro _ y hy; rw [List.length_eq_zero_iff.1 hn] at hy; cases hy
    | succ n ih =>
      intro hc y hy w hw
      have hne : l ≠ [] := fun e => by rw [e] at hn; cases hn
      obtain ⟨p, z, rfl⟩ : ∃ p z, l = p ++ [z] := ⟨l.dropLast, l.getLast hne, (List.dropLast_concat_getLast hne).symm⟩
      have hz : z = y := by simpa using hy
      subst hz
      have hpl : p.length = n := by simpa using hn
      have h1 := chkFrom_ok followsD [] (p ++ [z]) hc
      have h2 : (checkDeeds p).2 = 0 := by
        refine Classical.byContradiction fun hq => ?_
        have : ∀ (a b : List Deed), (chkFrom followsD a (b ++ [z])).2 = 0 → (chkFrom followsD a b).2 = 0 := by
          intro a b
          induction b generalizing a with
          | nil => intro _; rfl
          | cons c b ihb =>
            intro hh
            rw [List.cons_append, chkFrom] at hh
            rw [chkFrom]
            split at hh
            · rename_i h0; rw [if_pos h0]; exact ihb _ hh
            · rename_i h0; exact absurd hh h0
        exact hq (this [] p hc)
      rcases List.mem_append.1 hw with hw | hw
      · have h3 := h1 p.length z (by simp)
        rw [List.take_left', List.nil_append] at h3
        · have h4 := (followsD_parts h3).2.2.2
          cases hl : p.getLast? with
          | none => rw [List.getLast?_eq_none_iff] at hl; rw [hl] at hw; cases hw
          | some u =>
            unfold lateD at h4
            rw [hl] at h4
            have h5 := ih p hpl h2 u hl w hw
            have : ¬ z.known < u.known := by simpa using h4
            omega
        · rfl
      · rw [List.mem_singleton.1 hw]; exact Int.le_refl _
  intro w hw
  cases hl : l.getLast? with
  | none => rw [List.getLast?_eq_none_iff] at hl; rw [hl] at hw; cases hw
  | some u =>
    have h4 := (followsD_parts hf).2.2.2
    unfold lateD at h4
    rw [hl] at h4
    have h5 := key l h u hl w hw
    have : ¬ x.known < u.known := by simpa using h4
    omega

/-- What voids something names a deed that stands ahead of it. -/
theorem void_names {l : List Deed} (h : (checkDeeds l).2 = 0) : ∀ v ∈ l, v.kind = 6 → ∃ u ∈ l, u.id = v.of_ := by
  intro v hv hk
  obtain ⟨i, hi⟩ := List.getElem?_of_mem hv
  have h1 := chkFrom_ok followsD [] l h i v hi
  rw [List.nil_append] at h1
  have hf := (followsD_parts h1).2.1
  have hof := (formed_of hf).1.2 (.inr hk)
  unfold followsD at h1
  split at h1
  · cases h1
  split at h1
  · cases h1
  split at h1
  · cases h1
  split at h1
  · cases h1
  split at h1
  · cases h1
  rename_i hq
  have : (l.take i).any (namedD v) = true := by
    cases hb : (l.take i).any (namedD v) with
    | true => rfl
    | false => exact absurd ⟨hof, hb⟩ hq
  rw [List.any_eq_true] at this
  obtain ⟨u, hu, hn⟩ := this
  refine ⟨u, List.mem_of_mem_take hu, ?_⟩
  unfold namedD at hn
  split at hn <;> simp_all

theorem append_ok {l : List Deed} {x : Deed} (h : (appendDeed l x).2 = 0) : (checkDeeds l).2 = 0 ∧ followsD l x = 0 ∧ (appendDeed l x).1 = l ++ [x] := by
  unfold appendDeed at *
  split at h
  · rename_i h1
    split at h
    · rename_i h2
      rw [if_pos h1, if_pos h2]
      exact ⟨h1, h2, rfl⟩
    · rename_i h2; exact absurd h h2
  · rename_i h1; exact absurd h h1

theorem check_snoc {l : List Deed} {x : Deed} (h : (checkDeeds l).2 = 0) (hf : followsD l x = 0) : (checkDeeds (l ++ [x])).2 = 0 := by
  have : ∀ (b a : List Deed), (chkFrom followsD a b).2 = 0 → followsD (a ++ b) x = 0 → (chkFrom followsD a (b ++ [x])).2 = 0 := by
    intro b
    induction b with
    | nil =>
      intro a _ h2
      rw [List.append_nil] at h2
      rw [List.nil_append, chkFrom, if_pos h2]; rfl
    | cons c b ih =>
      intro a h1 h2
      rw [chkFrom] at h1
      rw [List.cons_append, chkFrom]
      split at h1
      · rename_i h0
        rw [if_pos h0]
        refine ih _ h1 ?_
        rw [List.append_assoc]; exact h2
      · rename_i h0; exact absurd h1 h0
  exact this l [] h (by simpa using hf)

theorem ofPack_sub {l : List Deed} {loss pack K : Int} : ∀ w ∈ ofPack l loss pack K, w ∈ l := by
  have : ∀ (c : List Deed) (st : List Int × List Deed), (∀ w ∈ st.2, w ∈ l) → (∀ w ∈ c, w ∈ l) → ∀ w ∈ (c.foldl (ofStep loss pack) st).2, w ∈ l := by
    intro c
    induction c with
    | nil => intro st h _; exact h
    | cons x c ih =>
      intro st h1 h2
      rw [List.foldl_cons]
      refine ih _ ?_ (fun w hw => h2 w (List.mem_cons_of_mem _ hw))
      have hs : ∀ b : Bool, ∀ w ∈ (if b = true then st.2 ++ [x] else st.2), w ∈ l := fun b w hw => by
        cases b with
        | true =>
          rcases List.mem_append.1 (show w ∈ st.2 ++ [x] from hw) with hw | hw
          · exact h1 w hw
          · rw [List.mem_singleton.1 hw]; exact h2 x List.mem_cons_self
        | false => exact h1 w hw
      exact hs _
  intro w hw
  exact this (cntD l K) ([], []) (fun _ h => by cases h) (fun w h => (List.mem_filter.1 h).1) w hw

theorem lap_twice {cl : List Int} {dl hr : Int} {r r1 : Run} (h : lapR cl dl hr r = some r1) (s : List Frac) : lapR cl dl hr { r1 with s := s } = some { r1 with s := s } := by
  unfold lapR at *
  split at h
  · cases hl : lapseD cl r.s with
    | none => rw [hl] at h; cases h
    | some t =>
      rw [hl] at h
      simp only [Option.map_some, Option.some.injEq] at h
      subst h
      rw [if_neg (by rintro ⟨q, _⟩; cases q)]
  · rename_i hc
    injection h with h
    subst h
    rw [if_neg hc]

/-- The run over two payments and that over one of both end alike, where none is idle. -/
theorem tail_two {cl : List Int} {dl h : Int} {o : Option Run} {x y z : Deed} (hp : ∀ r, o = some r → PurseOk r.s)
    (kx : x.kind = 1) (ky : y.kind = 1) (kz : z.kind = 1) (hy : y.hour = x.hour) (hz : z.hour = x.hour) (hx : x.hour ≤ h)
    (vx : validF x.share = true) (vy : validF y.share = true) (vz : validF z.share = true)
    (hf : 0 ≤ x.from_ ∧ x.from_ ≤ 40) (ht : 0 ≤ x.to_ ∧ x.to_ ≤ 40) (hne : x.to_ ≠ x.from_) (e1 : y.from_ = x.from_) (e2 : y.to_ = x.to_) (e3 : z.from_ = x.from_) (e4 : z.to_ = x.to_)
    (hq : valQ z.share = valQ x.share + valQ y.share - valQ x.share * valQ y.share)
    (i1 : ∀ r, doneStep cl dl h (doneStep cl dl h o x) y = some r → x.id ∉ r.idle ∧ y.id ∉ r.idle) (i2 : ∀ r, doneStep cl dl h o z = some r → z.id ∉ r.idle) :
    doneStep cl dl h (doneStep cl dl h o x) y = doneStep cl dl h o z := by
  cases o with
  | none => rfl
  | some r =>
    rw [doneStep_eq cl dl h r x] at i1 ⊢
    rw [doneStep_eq cl dl h r z, hz] at i2 ⊢
    cases hl : lapR cl dl x.hour r with
    | none => rfl
    | some r1 =>
      rw [hl] at i1 i2
      simp only [Option.map_some] at i1 i2 ⊢
      have hp1 : PurseOk r1.s := by
        have h0 := hp r rfl
        unfold lapR at hl
        split at hl
        · cases hq : lapseD cl r.s with
          | none => rw [hq] at hl; cases hl
          | some t =>
            rw [hq] at hl
            simp only [Option.map_some, Option.some.injEq] at hl
            subst hl
            exact lapse_ok cl _ (fun p hp => by rw [List.mem_range'_1] at hp; omega) _ _ h0 hq
        · injection hl with hl
          subst hl
          exact h0
      have mv : ∀ {k : Int}, k = 1 → movesD k = true := fun e => by rw [e]; decide
      have hdo : ∀ (s : List Frac) (u : Deed), u.kind = 1 → ∀ t, doD s u = some t → takeD s u = some t := fun s u hu t e => by
        unfold doD at e
        split at e
        · cases e
        · unfold moveD at e
          rw [if_neg (by omega)] at e
          exact e
      -- the first payment
      have m1 : mvR h r1 x = (match doD r1.s x with | some s => { r1 with s := s } | none => { r1 with idle := r1.idle ++ [x.id] }) := by
        unfold mvR; rw [if_pos ⟨mv kx, hx⟩]
      have m3 : mvR h r1 z = (match doD r1.s z with | some s => { r1 with s := s } | none => { r1 with idle := r1.idle ++ [z.id] }) := by
        unfold mvR; rw [if_pos ⟨mv kz, by omega⟩]
      have keep : ∀ (a : Run) (u : Deed) (n : Int), n ∈ a.idle → n ∈ (mvR h a u).idle := fun a u n hn => by
        unfold mvR
        split
        · cases doD a.s u with
          | some s => exact hn
          | none => exact List.mem_append_left _ hn
        · exact hn
      have lapk : ∀ (a b : Run) (t : Int), lapR cl dl t a = some b → a.idle = b.idle := fun a b t e => by
        unfold lapR at e
        split at e
        · cases hl : lapseD cl a.s with
          | none => rw [hl] at e; cases e
          | some s =>
            rw [hl] at e
            simp only [Option.map_some, Option.some.injEq] at e
            rw [← e]
        · injection e with e; rw [e]
      cases d1 : doD r1.s x with
      | none =>
        exfalso
        rw [d1] at m1
        rw [m1] at i1
        rw [doneStep_eq, hy] at i1
        have e := lap_twice hl r1.s
        have e' : lapR cl dl x.hour ({ r1 with idle := r1.idle ++ [x.id] } : Run) = some { r1 with idle := r1.idle ++ [x.id] } := by
          unfold lapR at e ⊢
          split at e
          · rename_i hc
            exfalso
            cases hq : lapseD cl ({ r1 with s := r1.s } : Run).s with
            | none => rw [hq] at e; cases e
            | some t =>
              rw [hq] at e
              simp only [Option.map_some, Option.some.injEq] at e
              have := congrArg Run.lapsed e
              simp only at this
              rw [hc.1] at this; cases this
          · rename_i hc
            rw [if_neg hc]
        rw [e'] at i1
        simp only [Option.map_some] at i1
        have := (i1 _ rfl).1
        exact this (keep _ _ _ (List.mem_append_right _ (by simp)))
      | some s1 =>
        rw [d1] at m1
        rw [m1] at i1 ⊢
        rw [doneStep_eq, hy, lap_twice hl s1] at i1 ⊢
        simp only [Option.map_some] at i1 ⊢
        have m2 : mvR h ({ r1 with s := s1 } : Run) y = (match doD s1 y with | some s => { r1 with s := s } | none => { r1 with s := s1, idle := r1.idle ++ [y.id] }) := by
          unfold mvR; rw [if_pos ⟨mv ky, by omega⟩]
        cases d2 : doD s1 y with
        | none =>
          exfalso
          rw [d2] at m2
          rw [m2] at i1
          exact (i1 _ rfl).2 (List.mem_append_right _ (by simp))
        | some s2 =>
          rw [d2] at m2
          rw [m2]
          cases d3 : doD r1.s z with
          | none =>
            exfalso
            rw [d3] at m3
            rw [m3] at i2
            exact i2 _ rfl (List.mem_append_right _ (by simp))
          | some s3 =>
            rw [d3] at m3
            rw [m3]
            have := take_two hp1 vx vy vz hf ht hne e1 e2 e3 e4 hq (hdo _ _ kx _ d1) (hdo _ _ ky _ d2) (hdo _ _ kz _ d3)
            rw [this]

theorem sortI_mem {l : List Int} {n : Int} : n ∈ sortI l ↔ n ∈ l := by
  have := (sortI_acc l [] List.Pairwise.nil).2
  rw [List.append_nil] at this
  exact this.mem_iff

/-- The titles behind two payments and behind one of both. -/
theorem parts_law {l : List Deed} {x y z : Deed} {owner dl hour : Int} (kx : x.kind = 1) (hy : y = { x with id := x.id + 1, share := y.share }) (hz : z = { x with share := z.share })
    (h1 : (checkDeeds l).2 = 0) (f1 : followsD l x = 0) (f2 : followsD (l ++ [x]) y = 0) (f3 : followsD l z = 0)
    (hm : (mulF x.share y.share).2 = 0) (ha : (addF x.share y.share).2 = 0) (hs : subF (addF x.share y.share).1 (mulF x.share y.share).1 = (z.share, 0))
    (i1 : (idleOf (l ++ [x] ++ [y]) x.loss x.pack owner x.known dl).2 = 0) (i2 : (idleOf (l ++ [z]) x.loss x.pack owner x.known dl).2 = 0)
    (n1 : x.id ∉ (idleOf (l ++ [x] ++ [y]) x.loss x.pack owner x.known dl).1) (n2 : y.id ∉ (idleOf (l ++ [x] ++ [y]) x.loss x.pack owner x.known dl).1) (n3 : z.id ∉ (idleOf (l ++ [z]) x.loss x.pack owner x.known dl).1)
    (hh : x.hour < hour) (hw : ∀ w ∈ l, w.hour < x.hour) :
    titlesOf (l ++ [x] ++ [y]) x.loss x.pack owner x.known hour dl = titlesOf (l ++ [z]) x.loss x.pack owner x.known hour dl := by
  have fx := (followsD_parts f1).2.1
  have fy := (followsD_parts f2).2.1
  have fz := (followsD_parts f3).2.1
  have hg := good_of_check h1
  have c2 := check_snoc (check_snoc h1 f1) f2
  have c3 := check_snoc h1 f3
  have hyk : y.kind = 1 ∧ y.hour = x.hour ∧ y.from_ = x.from_ ∧ y.to_ = x.to_ ∧ y.loss = x.loss ∧ y.pack = x.pack ∧ y.known = x.known := by rw [hy]; exact ⟨kx, rfl, rfl, rfl, rfl, rfl, rfl⟩
  have hzk : z.kind = 1 ∧ z.hour = x.hour ∧ z.from_ = x.from_ ∧ z.to_ = x.to_ ∧ z.loss = x.loss ∧ z.pack = x.pack ∧ z.known = x.known ∧ z.id = x.id := by rw [hz]; exact ⟨kx, rfl, rfl, rfl, rfl, rfl, rfl, rfl⟩
  obtain ⟨y1, y2, y3, y4, y5, y6, y7⟩ := hyk
  obtain ⟨z1, z2, z3, z4, z5, z6, z7, z8⟩ := hzk
  have hvn := void_names h1
  have nx := (followsD_parts f1).2.2.1
  have ny : ∀ u ∈ l, u.id ≠ y.id := fun u hu => (followsD_parts f2).2.2.1 u (List.mem_append_left _ hu)
  have hvoid : ∀ n : Int, (∀ u ∈ l, u.id ≠ n) → ∀ v ∈ l, v.kind = 6 → v.of_ ≠ n := fun n hn v hv hk e => by
    obtain ⟨u, hu, hu2⟩ := hvn v hv hk
    exact hn u hu (hu2.trans e)
  have o2 : ofPack (l ++ [x] ++ [y]) x.loss x.pack x.known = ofPack l x.loss x.pack x.known ++ [x] ++ [y] := by
    rw [List.append_assoc, List.append_assoc]
    refine of_snoc (fun m hm => ?_) (fun m hm => ?_)
    · rcases List.mem_cons.1 hm with rfl | hm
      · exact ⟨by omega, Int.le_refl _, hvoid _ nx⟩
      · rw [List.mem_singleton.1 hm]; exact ⟨by omega, by omega, hvoid _ ny⟩
    · rcases List.mem_cons.1 hm with rfl | hm
      · exact ⟨kx, rfl, rfl⟩
      · rw [List.mem_singleton.1 hm]; exact ⟨y1, y5, y6⟩
  have o1 : ofPack (l ++ [z]) x.loss x.pack x.known = ofPack l x.loss x.pack x.known ++ [z] := by
    refine of_snoc (fun m hm => ?_) (fun m hm => ?_)
    · rw [List.mem_singleton.1 hm]; exact ⟨by omega, by omega, hvoid _ (by rw [z8]; exact nx)⟩
    · rw [List.mem_singleton.1 hm]; exact ⟨z1, z5, z6⟩
  have hsub : ∀ w ∈ ofPack l x.loss x.pack x.known, w ∈ l := ofPack_sub
  unfold titlesOf
  unfold idleOf at i1 i2 n1 n2 n3
  have ea : askedE (l ++ [x] ++ [y]) x.loss x.pack owner dl 0 = rightD x.loss x.pack owner dl 0 := by unfold askedE; rw [if_pos c2]
  have eb : askedE (l ++ [z]) x.loss x.pack owner dl 0 = rightD x.loss x.pack owner dl 0 := by unfold askedE; rw [if_pos c3]
  rw [ea, eb]
  rw [ea] at i1 n1 n2
  rw [eb] at i2 n3
  by_cases hr : rightD x.loss x.pack owner dl 0 = 0
  · rw [if_pos hr, if_pos hr]
    rw [if_pos hr] at i1 i2 n1 n2 n3
    rw [o2] at i1 n1 n2 ⊢
    rw [o1] at i2 n3 ⊢
    generalize ofPack l x.loss x.pack x.known = own at *
    have hwo : ∀ w ∈ own, w.hour ≤ x.hour := fun w hq => by have := hw w (hsub w hq); omega
    have b2 : byHourD (own ++ [x] ++ [y]) = byHourD own ++ [x] ++ [y] := by
      rw [byHour_snoc, byHour_snoc hwo]
      intro w hq
      rcases List.mem_append.1 hq with hq | hq
      · have := hwo w hq; omega
      · rw [List.mem_singleton.1 hq]; omega
    have b1 : byHourD (own ++ [z]) = byHourD own ++ [z] := byHour_snoc (fun w hq => by have := hwo w hq; omega)
    have k2 : claimedD (own ++ [x] ++ [y]) dl = claimedD own dl := by
      rw [claimed_snoc (fun m hm => by rw [List.mem_singleton.1 hm]; exact y1), claimed_snoc (fun m hm => by rw [List.mem_singleton.1 hm]; exact kx)]
    have k1 : claimedD (own ++ [z]) dl = claimedD own dl := claimed_snoc (fun m hm => by rw [List.mem_singleton.1 hm]; exact z1) _
    have D2 : ∀ h, doneD (own ++ [x] ++ [y]) owner dl h = doneStep (claimedD own dl) dl h (doneStep (claimedD own dl) dl h (doneStep (claimedD own dl) dl h ((byHourD own).foldl (doneStep (claimedD own dl) dl h) (some (startR owner dl h))) x) y) farD := fun h => by
      rw [done_eq, k2, b2, List.foldl_append, List.foldl_append]; rfl
    have D1 : ∀ h, doneD (own ++ [z]) owner dl h = doneStep (claimedD own dl) dl h (doneStep (claimedD own dl) dl h ((byHourD own).foldl (doneStep (claimedD own dl) dl h) (some (startR owner dl h))) z) farD := fun h => by
      rw [done_eq, k1, b1, List.foldl_append]; rfl
    rw [D2] at i1 n1 n2 ⊢
    rw [D1] at i2 n3 ⊢
    generalize claimedD own dl = cl at *
    have hxh : x.hour ≤ 1000000 := (formedD_all fx).2.2.1.2
    have hbw : ∀ w ∈ byHourD own, w.hour ≤ x.hour := fun w hq => hwo w (byHour_mem.1 hq)
    have hR : RelO x.hour dl ((byHourD own).foldl (doneStep cl dl hour) (some (startR owner dl hour))) ((byHourD own).foldl (doneStep cl dl 1000001) (some (startR owner dl 1000001))) :=
      rel_fold (by omega) (by omega) _ hbw _ _ (rel_start (by omega) (by omega))
    have R1 : ∀ {o o' : Option Run} {u : Deed}, u.hour ≤ x.hour → RelO x.hour dl o o' → RelO x.hour dl (doneStep cl dl hour o u) (doneStep cl dl 1000001 o' u) := by
      intro o o' u hu ho
      have := rel_fold (cl := cl) (h := hour) (h' := 1000001) (by omega) (by omega) [u] (fun w hq => by rw [List.mem_singleton.1 hq]; exact hu) o o' ho
      exact this
    have R2 := R1 (show y.hour ≤ x.hour by omega) (R1 (Int.le_refl _) hR)
    have R3 := R1 (show z.hour ≤ x.hour by omega) hR
    have hpur : ∀ r, (byHourD own).foldl (doneStep cl dl hour) (some (startR owner dl hour)) = some r → PurseOk r.s := fun r e =>
      fold_ok _ (fun w hq => formed_move (hg.1 w (hsub w (byHour_mem.1 hq)))) _ _ (begun_ok owner) e
    obtain ⟨_, _, q1, q2, q3⟩ : True ∧ True ∧ validF x.share = true ∧ validF y.share = true ∧ validF z.share = true := by
      have m1 := (formed_move fx) (by rw [kx]; decide)
      have m2 := (formed_move fy) (by rw [y1]; decide)
      have m3 := (formed_move fz) (by rw [z1]; decide)
      exact ⟨trivial, trivial, m1.2.2 (by omega), m2.2.2 (by omega), m3.2.2 (by omega)⟩
    obtain ⟨p1, p2, _⟩ := (formed_move fx) (by rw [kx]; decide)
    have hne : x.to_ ≠ x.from_ := by
      unfold formedD fineD at fx
      rw [if_pos (Or.inl kx)] at fx
      simp only [Bool.and_eq_true, Bool.not_eq_true', decide_eq_false_iff_not] at fx
      exact fx.1.2.1.1.1.2
    have hval : valQ z.share = valQ x.share + valQ y.share - valQ x.share * valQ y.share := by
      obtain ⟨_, _, _, e1⟩ := addF_Q ha
      obtain ⟨_, _, _, e2⟩ := mulF_Q hm
      obtain ⟨_, _, _, e3⟩ := subF_Q (a := (addF x.share y.share).1) (b := (mulF x.share y.share).1) (by rw [hs])
      rw [hs] at e3
      rw [e3, e1, e2]
    generalize (byHourD own).foldl (doneStep cl dl hour) (some (startR owner dl hour)) = o at *
    generalize (byHourD own).foldl (doneStep cl dl 1000001) (some (startR owner dl 1000001)) = o' at *
    have key := tail_two (cl := cl) (dl := dl) (h := hour) (o := o) (x := x) (y := y) (z := z) hpur kx y1 z1 y2 z2 (by omega) q1 q2 q3 p1 p2 hne y3 y4 z3 z4 hval
      (fun r hr2 => by
        rw [hr2] at R2
        cases ho : doneStep cl dl 1000001 (doneStep cl dl 1000001 o' x) y with
        | none => rw [ho] at R2; exact R2.elim
        | some r' =>
          rw [ho] at R2
          cases hfin : doneStep cl dl 1000001 (some r') farD with
          | none => rw [ho, hfin] at i1; cases i1
          | some rf =>
            obtain ⟨r0, e0, e1⟩ := far_step hfin
            rw [ho, hfin] at n1 n2
            simp only [sortI_mem] at n1 n2
            injection e0 with e0
            rw [R2.2.1, e0, e1]
            exact ⟨n1, n2⟩)
      (fun r hr2 => by
        rw [hr2] at R3
        cases ho : doneStep cl dl 1000001 o' z with
        | none => rw [ho] at R3; exact R3.elim
        | some r' =>
          rw [ho] at R3
          cases hfin : doneStep cl dl 1000001 (some r') farD with
          | none => rw [ho, hfin] at i2; cases i2
          | some rf =>
            obtain ⟨r0, e0, e1⟩ := far_step hfin
            rw [ho, hfin] at n3
            simp only [sortI_mem] at n3
            injection e0 with e0
            rw [R3.2.1, e0, e1]
            exact n3)
    rw [key]
  · rw [if_neg hr, if_neg hr]

end Lg
