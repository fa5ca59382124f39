/-
  No cell of these rows narrows 'for every input' (looked for: loops, veiled, ifaces, maps, wideKeys, modest, calm, conditions, laid).
  DERIVED. THE GIVEN ROWS OF THIS SEAT. 12 by the template 'for every input the law returns true; each argument reads behind the call as it read before'; 0 by the template 'total and deterministic' (their statements: YtollegoajlfdiaaGreatTotals.lean).
  GIVEN WITH THE SEED: the statements are not yours to turn. If you find one false, say at which input.
  Laid BY PROGRAM, IN A SANDBOX (cutbox-rows.mjs): the forced cells as the released guide's own fill.sh prints them over the translation 921a262884c667b5… (all of the seat's roots in one cut). By AI agents, Wed Nov 11 2026. No macro, syntax, notation, axiom, sorry.
-/
import Derived.Test.YtollegoajlfdiaaGreatChecked
import GoSem.Claim
import GoSem.ClaimJoined
import GoSem.ClaimMapViews
import Derived.JoinedTies
import Derived.KernelRfl
namespace Go.Proofs.YtollegoajlfdiaaGreat
/- THE CELL 'sum', in the pinned program and in every row, IS THE sha256 OF THE DUMP (.gsa) THAT YtollegoajlfdiaaGreatProg.lean LOADS. Nothing in Lean hashes anything: it is a label: what it is worth is what the hold of that sum in a sandbox is worth. -/
noncomputable def Tryz.pinned : Pinned := { name := "ytollegoajlfdiaagreat", sum := "921a262884c667b588d193b806d1b79c739538116fae6324a0596cd93cdb0d85", checked := Tryz.checked }
namespace Rows
def none {H : Type} : Left H := { results := [], args := [] }

/-- 'laganlaw06.AwardForce': WHATEVER THE INPUT: true; the input reads as it did. -/
def awardForceSpec : ChangeSpec := { name := "awardForce", fn := fun _ => fun
  | [d1, d2, d3, d4, d5] => { results := [.lit (.bool true)], args := [d1, d2, d3, d4, d5] }
  | _ => none }
def awardForceRow : OpenClaim := { program := "ytollegoajlfdiaagreat", sum := "921a262884c667b588d193b806d1b79c739538116fae6324a0596cd93cdb0d85", func := "lagan/laganlaw06.AwardForce", spec := "awardForce", unfollowed := true, recurses := true, apart := false }
def AwardForceSaid : Prop := awardForceRow.holds Tryz.pinned (OpenSpec.ofChange awardForceSpec)

/-- ITS FALSE NEIGHBOUR: 'it returns false'. Refute it at one input. -/
def awardForceWrong : ChangeSpec := { name := "awardForce", fn := fun _ => fun
  | [d1, d2, d3, d4, d5] => { results := [.lit (.bool false)], args := [d1, d2, d3, d4, d5] }
  | _ => none }
def AwardForceWrongFalsely : Prop := awardForceRow.holds Tryz.pinned (OpenSpec.ofChange awardForceWrong)

/-- 'laganlaw06.AwardParts': WHATEVER THE INPUT: true; the input reads as it did. -/
def awardPartsSpec : ChangeSpec := { name := "awardParts", fn := fun _ => fun
  | [d1, d2, d3, d4, d5] => { results := [.lit (.bool true)], args := [d1, d2, d3, d4, d5] }
  | _ => none }
def awardPartsRow : OpenClaim := { program := "ytollegoajlfdiaagreat", sum := "921a262884c667b588d193b806d1b79c739538116fae6324a0596cd93cdb0d85", func := "lagan/laganlaw06.AwardParts", spec := "awardParts", unfollowed := true, recurses := true, apart := false }
def AwardPartsSaid : Prop := awardPartsRow.holds Tryz.pinned (OpenSpec.ofChange awardPartsSpec)

/-- ITS FALSE NEIGHBOUR: 'it returns false'. Refute it at one input. -/
def awardPartsWrong : ChangeSpec := { name := "awardParts", fn := fun _ => fun
  | [d1, d2, d3, d4, d5] => { results := [.lit (.bool false)], args := [d1, d2, d3, d4, d5] }
  | _ => none }
def AwardPartsWrongFalsely : Prop := awardPartsRow.holds Tryz.pinned (OpenSpec.ofChange awardPartsWrong)

/-- 'laganlaw06.AwardEqual': WHATEVER THE INPUT: true; the input reads as it did. -/
def awardEqualSpec : ChangeSpec := { name := "awardEqual", fn := fun _ => fun
  | [d1, d2] => { results := [.lit (.bool true)], args := [d1, d2] }
  | _ => none }
def awardEqualRow : OpenClaim := { program := "ytollegoajlfdiaagreat", sum := "921a262884c667b588d193b806d1b79c739538116fae6324a0596cd93cdb0d85", func := "lagan/laganlaw06.AwardEqual", spec := "awardEqual", unfollowed := true, recurses := true, apart := false }
def AwardEqualSaid : Prop := awardEqualRow.holds Tryz.pinned (OpenSpec.ofChange awardEqualSpec)

/-- ITS FALSE NEIGHBOUR: 'it returns false'. Refute it at one input. -/
def awardEqualWrong : ChangeSpec := { name := "awardEqual", fn := fun _ => fun
  | [d1, d2] => { results := [.lit (.bool false)], args := [d1, d2] }
  | _ => none }
def AwardEqualWrongFalsely : Prop := awardEqualRow.holds Tryz.pinned (OpenSpec.ofChange awardEqualWrong)

/-- 'laganlaw06.AwardTouched': WHATEVER THE INPUT: true; the input reads as it did. -/
def awardTouchedSpec : ChangeSpec := { name := "awardTouched", fn := fun _ => fun
  | [d1, d2, d3, d4] => { results := [.lit (.bool true)], args := [d1, d2, d3, d4] }
  | _ => none }
def awardTouchedRow : OpenClaim := { program := "ytollegoajlfdiaagreat", sum := "921a262884c667b588d193b806d1b79c739538116fae6324a0596cd93cdb0d85", func := "lagan/laganlaw06.AwardTouched", spec := "awardTouched", unfollowed := true, recurses := true, apart := false }
def AwardTouchedSaid : Prop := awardTouchedRow.holds Tryz.pinned (OpenSpec.ofChange awardTouchedSpec)

/-- ITS FALSE NEIGHBOUR: 'it returns false'. Refute it at one input. -/
def awardTouchedWrong : ChangeSpec := { name := "awardTouched", fn := fun _ => fun
  | [d1, d2, d3, d4] => { results := [.lit (.bool false)], args := [d1, d2, d3, d4] }
  | _ => none }
def AwardTouchedWrongFalsely : Prop := awardTouchedRow.holds Tryz.pinned (OpenSpec.ofChange awardTouchedWrong)

/-- 'laganlaw06.AwardLater': WHATEVER THE INPUT: true; the input reads as it did. -/
def awardLaterSpec : ChangeSpec := { name := "awardLater", fn := fun _ => fun
  | [d1, d2, d3, d4, d5, d6, d7] => { results := [.lit (.bool true)], args := [d1, d2, d3, d4, d5, d6, d7] }
  | _ => none }
def awardLaterRow : OpenClaim := { program := "ytollegoajlfdiaagreat", sum := "921a262884c667b588d193b806d1b79c739538116fae6324a0596cd93cdb0d85", func := "lagan/laganlaw06.AwardLater", spec := "awardLater", unfollowed := true, recurses := true, apart := false }
def AwardLaterSaid : Prop := awardLaterRow.holds Tryz.pinned (OpenSpec.ofChange awardLaterSpec)

/-- ITS FALSE NEIGHBOUR: 'it returns false'. Refute it at one input. -/
def awardLaterWrong : ChangeSpec := { name := "awardLater", fn := fun _ => fun
  | [d1, d2, d3, d4, d5, d6, d7] => { results := [.lit (.bool false)], args := [d1, d2, d3, d4, d5, d6, d7] }
  | _ => none }
def AwardLaterWrongFalsely : Prop := awardLaterRow.holds Tryz.pinned (OpenSpec.ofChange awardLaterWrong)

/-- 'laganlaw06.AwardAwards': WHATEVER THE INPUT: true; the input reads as it did. -/
def awardAwardsSpec : ChangeSpec := { name := "awardAwards", fn := fun _ => fun
  | [d1, d2, d3, d4, d5, d6, d7, d8, d9, d10] => { results := [.lit (.bool true)], args := [d1, d2, d3, d4, d5, d6, d7, d8, d9, d10] }
  | _ => none }
def awardAwardsRow : OpenClaim := { program := "ytollegoajlfdiaagreat", sum := "921a262884c667b588d193b806d1b79c739538116fae6324a0596cd93cdb0d85", func := "lagan/laganlaw06.AwardAwards", spec := "awardAwards", unfollowed := true, recurses := true, apart := false }
def AwardAwardsSaid : Prop := awardAwardsRow.holds Tryz.pinned (OpenSpec.ofChange awardAwardsSpec)

/-- ITS FALSE NEIGHBOUR: 'it returns false'. Refute it at one input. -/
def awardAwardsWrong : ChangeSpec := { name := "awardAwards", fn := fun _ => fun
  | [d1, d2, d3, d4, d5, d6, d7, d8, d9, d10] => { results := [.lit (.bool false)], args := [d1, d2, d3, d4, d5, d6, d7, d8, d9, d10] }
  | _ => none }
def AwardAwardsWrongFalsely : Prop := awardAwardsRow.holds Tryz.pinned (OpenSpec.ofChange awardAwardsWrong)

/-- 'laganlaw06.AwardAdds': WHATEVER THE INPUT: true; the input reads as it did. -/
def awardAddsSpec : ChangeSpec := { name := "awardAdds", fn := fun _ => fun
  | [d1, d2, d3, d4] => { results := [.lit (.bool true)], args := [d1, d2, d3, d4] }
  | _ => none }
def awardAddsRow : OpenClaim := { program := "ytollegoajlfdiaagreat", sum := "921a262884c667b588d193b806d1b79c739538116fae6324a0596cd93cdb0d85", func := "lagan/laganlaw06.AwardAdds", spec := "awardAdds", unfollowed := true, recurses := true, apart := false }
def AwardAddsSaid : Prop := awardAddsRow.holds Tryz.pinned (OpenSpec.ofChange awardAddsSpec)

/-- ITS FALSE NEIGHBOUR: 'it returns false'. Refute it at one input. -/
def awardAddsWrong : ChangeSpec := { name := "awardAdds", fn := fun _ => fun
  | [d1, d2, d3, d4] => { results := [.lit (.bool false)], args := [d1, d2, d3, d4] }
  | _ => none }
def AwardAddsWrongFalsely : Prop := awardAddsRow.holds Tryz.pinned (OpenSpec.ofChange awardAddsWrong)

/-- 'laganlaw06.AwardMore': WHATEVER THE INPUT: true; the input reads as it did. -/
def awardMoreSpec : ChangeSpec := { name := "awardMore", fn := fun _ => fun
  | [d1, d2, d3, d4, d5] => { results := [.lit (.bool true)], args := [d1, d2, d3, d4, d5] }
  | _ => none }
def awardMoreRow : OpenClaim := { program := "ytollegoajlfdiaagreat", sum := "921a262884c667b588d193b806d1b79c739538116fae6324a0596cd93cdb0d85", func := "lagan/laganlaw06.AwardMore", spec := "awardMore", unfollowed := true, recurses := true, apart := false }
def AwardMoreSaid : Prop := awardMoreRow.holds Tryz.pinned (OpenSpec.ofChange awardMoreSpec)

/-- ITS FALSE NEIGHBOUR: 'it returns false'. Refute it at one input. -/
def awardMoreWrong : ChangeSpec := { name := "awardMore", fn := fun _ => fun
  | [d1, d2, d3, d4, d5] => { results := [.lit (.bool false)], args := [d1, d2, d3, d4, d5] }
  | _ => none }
def AwardMoreWrongFalsely : Prop := awardMoreRow.holds Tryz.pinned (OpenSpec.ofChange awardMoreWrong)

/-- 'laganlaw06.AwardChange': WHATEVER THE INPUT: true; the input reads as it did. -/
def awardChangeSpec : ChangeSpec := { name := "awardChange", fn := fun _ => fun
  | [d1, d2] => { results := [.lit (.bool true)], args := [d1, d2] }
  | _ => none }
def awardChangeRow : OpenClaim := { program := "ytollegoajlfdiaagreat", sum := "921a262884c667b588d193b806d1b79c739538116fae6324a0596cd93cdb0d85", func := "lagan/laganlaw06.AwardChange", spec := "awardChange", unfollowed := true, recurses := true, apart := false }
def AwardChangeSaid : Prop := awardChangeRow.holds Tryz.pinned (OpenSpec.ofChange awardChangeSpec)

/-- ITS FALSE NEIGHBOUR: 'it returns false'. Refute it at one input. -/
def awardChangeWrong : ChangeSpec := { name := "awardChange", fn := fun _ => fun
  | [d1, d2] => { results := [.lit (.bool false)], args := [d1, d2] }
  | _ => none }
def AwardChangeWrongFalsely : Prop := awardChangeRow.holds Tryz.pinned (OpenSpec.ofChange awardChangeWrong)

/-- 'laganlaw06.AwardMerges': WHATEVER THE INPUT: true; the input reads as it did. -/
def awardMergesSpec : ChangeSpec := { name := "awardMerges", fn := fun _ => fun
  | [d1, d2, d3] => { results := [.lit (.bool true)], args := [d1, d2, d3] }
  | _ => none }
def awardMergesRow : OpenClaim := { program := "ytollegoajlfdiaagreat", sum := "921a262884c667b588d193b806d1b79c739538116fae6324a0596cd93cdb0d85", func := "lagan/laganlaw06.AwardMerges", spec := "awardMerges", unfollowed := true, recurses := true, apart := false }
def AwardMergesSaid : Prop := awardMergesRow.holds Tryz.pinned (OpenSpec.ofChange awardMergesSpec)

/-- ITS FALSE NEIGHBOUR: 'it returns false'. Refute it at one input. -/
def awardMergesWrong : ChangeSpec := { name := "awardMerges", fn := fun _ => fun
  | [d1, d2, d3] => { results := [.lit (.bool false)], args := [d1, d2, d3] }
  | _ => none }
def AwardMergesWrongFalsely : Prop := awardMergesRow.holds Tryz.pinned (OpenSpec.ofChange awardMergesWrong)

/-- 'laganlaw06.AwardValues': WHATEVER THE INPUT: true; the input reads as it did. -/
def awardValuesSpec : ChangeSpec := { name := "awardValues", fn := fun _ => fun
  | [d1, d2, d3, d4] => { results := [.lit (.bool true)], args := [d1, d2, d3, d4] }
  | _ => none }
def awardValuesRow : OpenClaim := { program := "ytollegoajlfdiaagreat", sum := "921a262884c667b588d193b806d1b79c739538116fae6324a0596cd93cdb0d85", func := "lagan/laganlaw06.AwardValues", spec := "awardValues", unfollowed := true, recurses := true, apart := false }
def AwardValuesSaid : Prop := awardValuesRow.holds Tryz.pinned (OpenSpec.ofChange awardValuesSpec)

/-- ITS FALSE NEIGHBOUR: 'it returns false'. Refute it at one input. -/
def awardValuesWrong : ChangeSpec := { name := "awardValues", fn := fun _ => fun
  | [d1, d2, d3, d4] => { results := [.lit (.bool false)], args := [d1, d2, d3, d4] }
  | _ => none }
def AwardValuesWrongFalsely : Prop := awardValuesRow.holds Tryz.pinned (OpenSpec.ofChange awardValuesWrong)

/-- 'laganlaw06.AwardSold': WHATEVER THE INPUT: true; the input reads as it did. -/
def awardSoldSpec : ChangeSpec := { name := "awardSold", fn := fun _ => fun
  | [d1, d2, d3] => { results := [.lit (.bool true)], args := [d1, d2, d3] }
  | _ => none }
def awardSoldRow : OpenClaim := { program := "ytollegoajlfdiaagreat", sum := "921a262884c667b588d193b806d1b79c739538116fae6324a0596cd93cdb0d85", func := "lagan/laganlaw06.AwardSold", spec := "awardSold", unfollowed := true, recurses := true, apart := false }
def AwardSoldSaid : Prop := awardSoldRow.holds Tryz.pinned (OpenSpec.ofChange awardSoldSpec)

/-- ITS FALSE NEIGHBOUR: 'it returns false'. Refute it at one input. -/
def awardSoldWrong : ChangeSpec := { name := "awardSold", fn := fun _ => fun
  | [d1, d2, d3] => { results := [.lit (.bool false)], args := [d1, d2, d3] }
  | _ => none }
def AwardSoldWrongFalsely : Prop := awardSoldRow.holds Tryz.pinned (OpenSpec.ofChange awardSoldWrong)

/- THE SECOND FORM. 'bulk': how many values and letters a reading holds, each counted each time it is reached (what is shared counts as often as it is met; a slice's spare places count too). A statement '..UptoSaid' is the law's where the arguments, and the package variables that the reading takes, are together of bulk at most 1048576: NARROWER than '..Said'. Prove '..Said' where nothing that the law and all that it calls make is longer than what came in: it says more and counts as full. Else prove '..UptoSaid'. A law counts once. -/
mutual
def uptoBulk {H : Type} : DataW H → Nat
  | .lit (.string bytes) => bytes.length + 1
  | .lit _ => 1
  | .nil => 1
  | .ptr d => uptoBulk d + 1
  | .slice elems spare => uptoBulkAll elems + uptoBulkAll spare + 1
  | .agg parts => uptoBulkAll parts + 1
  | .iface _ d => uptoBulk d + 1
  | .map entries => uptoBulkEntries entries + 1
  | .held _ => 1
def uptoBulkAll {H : Type} : List (DataW H) → Nat
  | [] => 0
  | d :: r => uptoBulk d + uptoBulkAll r
def uptoBulkEntries {H : Type} : List (Lit × DataW H) → Nat
  | [] => 0
  | x :: r => uptoBulkEntry x + uptoBulkEntries r
def uptoBulkEntry {H : Type} : Lit × DataW H → Nat
  | (.string bytes, d) => bytes.length + uptoBulk d + 1
  | (_, d) => uptoBulk d + 1
 end
def uptoSmall : (H : Type) → List (DataW H) → Bool := fun _ ds => decide (uptoBulkAll ds ≤ 1048576)
def OpenSpec.upto (s : _root_.Go.ChangeSpec) : _root_.Go.OpenSpec := { _root_.Go.OpenSpec.ofChange s with cond := some uptoSmall }

/-- 'laganlaw06.AwardForce', WHERE WHAT IT READS IS OF BULK AT MOST 1048576: true; the input reads as it did. -/
def awardForceUptoRow : OpenClaim := { program := "ytollegoajlfdiaagreat", sum := "921a262884c667b588d193b806d1b79c739538116fae6324a0596cd93cdb0d85", func := "lagan/laganlaw06.AwardForce", spec := "awardForce", unfollowed := true, recurses := true, apart := false, narrowed := true }
def AwardForceUptoSaid : Prop := awardForceUptoRow.holds Tryz.pinned (OpenSpec.upto awardForceSpec)

/-- 'laganlaw06.AwardParts', WHERE WHAT IT READS IS OF BULK AT MOST 1048576: true; the input reads as it did. -/
def awardPartsUptoRow : OpenClaim := { program := "ytollegoajlfdiaagreat", sum := "921a262884c667b588d193b806d1b79c739538116fae6324a0596cd93cdb0d85", func := "lagan/laganlaw06.AwardParts", spec := "awardParts", unfollowed := true, recurses := true, apart := false, narrowed := true }
def AwardPartsUptoSaid : Prop := awardPartsUptoRow.holds Tryz.pinned (OpenSpec.upto awardPartsSpec)

/-- 'laganlaw06.AwardEqual', WHERE WHAT IT READS IS OF BULK AT MOST 1048576: true; the input reads as it did. -/
def awardEqualUptoRow : OpenClaim := { program := "ytollegoajlfdiaagreat", sum := "921a262884c667b588d193b806d1b79c739538116fae6324a0596cd93cdb0d85", func := "lagan/laganlaw06.AwardEqual", spec := "awardEqual", unfollowed := true, recurses := true, apart := false, narrowed := true }
def AwardEqualUptoSaid : Prop := awardEqualUptoRow.holds Tryz.pinned (OpenSpec.upto awardEqualSpec)

/-- 'laganlaw06.AwardTouched', WHERE WHAT IT READS IS OF BULK AT MOST 1048576: true; the input reads as it did. -/
def awardTouchedUptoRow : OpenClaim := { program := "ytollegoajlfdiaagreat", sum := "921a262884c667b588d193b806d1b79c739538116fae6324a0596cd93cdb0d85", func := "lagan/laganlaw06.AwardTouched", spec := "awardTouched", unfollowed := true, recurses := true, apart := false, narrowed := true }
def AwardTouchedUptoSaid : Prop := awardTouchedUptoRow.holds Tryz.pinned (OpenSpec.upto awardTouchedSpec)

/-- 'laganlaw06.AwardLater', WHERE WHAT IT READS IS OF BULK AT MOST 1048576: true; the input reads as it did. -/
def awardLaterUptoRow : OpenClaim := { program := "ytollegoajlfdiaagreat", sum := "921a262884c667b588d193b806d1b79c739538116fae6324a0596cd93cdb0d85", func := "lagan/laganlaw06.AwardLater", spec := "awardLater", unfollowed := true, recurses := true, apart := false, narrowed := true }
def AwardLaterUptoSaid : Prop := awardLaterUptoRow.holds Tryz.pinned (OpenSpec.upto awardLaterSpec)

/-- 'laganlaw06.AwardAwards', WHERE WHAT IT READS IS OF BULK AT MOST 1048576: true; the input reads as it did. -/
def awardAwardsUptoRow : OpenClaim := { program := "ytollegoajlfdiaagreat", sum := "921a262884c667b588d193b806d1b79c739538116fae6324a0596cd93cdb0d85", func := "lagan/laganlaw06.AwardAwards", spec := "awardAwards", unfollowed := true, recurses := true, apart := false, narrowed := true }
def AwardAwardsUptoSaid : Prop := awardAwardsUptoRow.holds Tryz.pinned (OpenSpec.upto awardAwardsSpec)

/-- 'laganlaw06.AwardAdds', WHERE WHAT IT READS IS OF BULK AT MOST 1048576: true; the input reads as it did. -/
def awardAddsUptoRow : OpenClaim := { program := "ytollegoajlfdiaagreat", sum := "921a262884c667b588d193b806d1b79c739538116fae6324a0596cd93cdb0d85", func := "lagan/laganlaw06.AwardAdds", spec := "awardAdds", unfollowed := true, recurses := true, apart := false, narrowed := true }
def AwardAddsUptoSaid : Prop := awardAddsUptoRow.holds Tryz.pinned (OpenSpec.upto awardAddsSpec)

/-- 'laganlaw06.AwardMore', WHERE WHAT IT READS IS OF BULK AT MOST 1048576: true; the input reads as it did. -/
def awardMoreUptoRow : OpenClaim := { program := "ytollegoajlfdiaagreat", sum := "921a262884c667b588d193b806d1b79c739538116fae6324a0596cd93cdb0d85", func := "lagan/laganlaw06.AwardMore", spec := "awardMore", unfollowed := true, recurses := true, apart := false, narrowed := true }
def AwardMoreUptoSaid : Prop := awardMoreUptoRow.holds Tryz.pinned (OpenSpec.upto awardMoreSpec)

/-- 'laganlaw06.AwardChange', WHERE WHAT IT READS IS OF BULK AT MOST 1048576: true; the input reads as it did. -/
def awardChangeUptoRow : OpenClaim := { program := "ytollegoajlfdiaagreat", sum := "921a262884c667b588d193b806d1b79c739538116fae6324a0596cd93cdb0d85", func := "lagan/laganlaw06.AwardChange", spec := "awardChange", unfollowed := true, recurses := true, apart := false, narrowed := true }
def AwardChangeUptoSaid : Prop := awardChangeUptoRow.holds Tryz.pinned (OpenSpec.upto awardChangeSpec)

/-- 'laganlaw06.AwardMerges', WHERE WHAT IT READS IS OF BULK AT MOST 1048576: true; the input reads as it did. -/
def awardMergesUptoRow : OpenClaim := { program := "ytollegoajlfdiaagreat", sum := "921a262884c667b588d193b806d1b79c739538116fae6324a0596cd93cdb0d85", func := "lagan/laganlaw06.AwardMerges", spec := "awardMerges", unfollowed := true, recurses := true, apart := false, narrowed := true }
def AwardMergesUptoSaid : Prop := awardMergesUptoRow.holds Tryz.pinned (OpenSpec.upto awardMergesSpec)

/-- 'laganlaw06.AwardValues', WHERE WHAT IT READS IS OF BULK AT MOST 1048576: true; the input reads as it did. -/
def awardValuesUptoRow : OpenClaim := { program := "ytollegoajlfdiaagreat", sum := "921a262884c667b588d193b806d1b79c739538116fae6324a0596cd93cdb0d85", func := "lagan/laganlaw06.AwardValues", spec := "awardValues", unfollowed := true, recurses := true, apart := false, narrowed := true }
def AwardValuesUptoSaid : Prop := awardValuesUptoRow.holds Tryz.pinned (OpenSpec.upto awardValuesSpec)

/-- 'laganlaw06.AwardSold', WHERE WHAT IT READS IS OF BULK AT MOST 1048576: true; the input reads as it did. -/
def awardSoldUptoRow : OpenClaim := { program := "ytollegoajlfdiaagreat", sum := "921a262884c667b588d193b806d1b79c739538116fae6324a0596cd93cdb0d85", func := "lagan/laganlaw06.AwardSold", spec := "awardSold", unfollowed := true, recurses := true, apart := false, narrowed := true }
def AwardSoldUptoSaid : Prop := awardSoldUptoRow.holds Tryz.pinned (OpenSpec.upto awardSoldSpec)

end Rows
end Go.Proofs.YtollegoajlfdiaaGreat
