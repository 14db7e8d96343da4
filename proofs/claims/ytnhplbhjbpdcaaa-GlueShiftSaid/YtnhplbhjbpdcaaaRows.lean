/-
  No cell of these rows narrows 'for every input' (looked for: loops, veiled, ifaces, maps, wideKeys, modest, calm, conditions, laid).
  DERIVED. THE GIVEN ROWS OF THIS SEAT. 8 by the template 'for every input the law returns true; each argument reads behind the call as it read before'; 0 by the template 'total and deterministic' (their statements: YtnhplbhjbpdcaaaTotals.lean).
  GIVEN WITH THE SEED: the statements are not yours to turn. If you find one false, say at which input.
  Laid BY PROGRAM, IN A SANDBOX (cutbox-rows.mjs): the forced cells as the released guide's own fill.sh prints them over the translation cbfc3ebc84650ec2… (all of the seat's roots in one cut). By AI agents, Wed Nov 11 2026. No macro, syntax, notation, axiom, sorry.
-/
import Derived.Test.YtnhplbhjbpdcaaaChecked
import GoSem.Claim
import GoSem.ClaimJoined
import GoSem.ClaimMapViews
import Derived.JoinedTies
import Derived.KernelRfl
namespace Go.Proofs.Ytnhplbhjbpdcaaa
/- THE CELL 'sum', in the pinned program and in every row, IS THE sha256 OF THE DUMP (.gsa) THAT YtnhplbhjbpdcaaaProg.lean LOADS. Nothing in Lean hashes anything: it is a label: what it is worth is what the hold of that sum in a sandbox is worth. -/
noncomputable def Try.pinned : Pinned := { name := "ytnhplbhjbpdcaaa", sum := "cbfc3ebc84650ec2b9b001bb29b4fab39e97ecc07da204db6127b3809c5dab78", checked := Try.checked }
namespace Rows
def none {H : Type} : Left H := { results := [], args := [] }

/-- 'vinculumlaw27.GlueMeasures': WHATEVER THE INPUT: true; the input reads as it did. -/
def glueMeasuresSpec : ChangeSpec := { name := "glueMeasures", fn := fun _ => fun
  | [d1, d2] => { results := [.lit (.bool true)], args := [d1, d2] }
  | _ => none }
def glueMeasuresRow : OpenClaim := { program := "ytnhplbhjbpdcaaa", sum := "cbfc3ebc84650ec2b9b001bb29b4fab39e97ecc07da204db6127b3809c5dab78", func := "vinculum/vinculumlaw27.GlueMeasures", spec := "glueMeasures", unfollowed := true, recurses := true, apart := false }
def GlueMeasuresSaid : Prop := glueMeasuresRow.holds Try.pinned (OpenSpec.ofChange glueMeasuresSpec)

/-- ITS FALSE NEIGHBOUR: 'it returns false'. Refute it at one input. -/
def glueMeasuresWrong : ChangeSpec := { name := "glueMeasures", fn := fun _ => fun
  | [d1, d2] => { results := [.lit (.bool false)], args := [d1, d2] }
  | _ => none }
def GlueMeasuresWrongFalsely : Prop := glueMeasuresRow.holds Try.pinned (OpenSpec.ofChange glueMeasuresWrong)

/-- 'vinculumlaw27.GlueSet': WHATEVER THE INPUT: true; the input reads as it did. -/
def glueSetSpec : ChangeSpec := { name := "glueSet", fn := fun _ => fun
  | [d1, d2] => { results := [.lit (.bool true)], args := [d1, d2] }
  | _ => none }
def glueSetRow : OpenClaim := { program := "ytnhplbhjbpdcaaa", sum := "cbfc3ebc84650ec2b9b001bb29b4fab39e97ecc07da204db6127b3809c5dab78", func := "vinculum/vinculumlaw27.GlueSet", spec := "glueSet", unfollowed := true, recurses := true, apart := false }
def GlueSetSaid : Prop := glueSetRow.holds Try.pinned (OpenSpec.ofChange glueSetSpec)

/-- ITS FALSE NEIGHBOUR: 'it returns false'. Refute it at one input. -/
def glueSetWrong : ChangeSpec := { name := "glueSet", fn := fun _ => fun
  | [d1, d2] => { results := [.lit (.bool false)], args := [d1, d2] }
  | _ => none }
def GlueSetWrongFalsely : Prop := glueSetRow.holds Try.pinned (OpenSpec.ofChange glueSetWrong)

/-- 'vinculumlaw27.GlueBadness': WHATEVER THE INPUT: true; the input reads as it did. -/
def glueBadnessSpec : ChangeSpec := { name := "glueBadness", fn := fun _ => fun
  | [d1, d2] => { results := [.lit (.bool true)], args := [d1, d2] }
  | _ => none }
def glueBadnessRow : OpenClaim := { program := "ytnhplbhjbpdcaaa", sum := "cbfc3ebc84650ec2b9b001bb29b4fab39e97ecc07da204db6127b3809c5dab78", func := "vinculum/vinculumlaw27.GlueBadness", spec := "glueBadness", unfollowed := true, recurses := true, apart := false }
def GlueBadnessSaid : Prop := glueBadnessRow.holds Try.pinned (OpenSpec.ofChange glueBadnessSpec)

/-- ITS FALSE NEIGHBOUR: 'it returns false'. Refute it at one input. -/
def glueBadnessWrong : ChangeSpec := { name := "glueBadness", fn := fun _ => fun
  | [d1, d2] => { results := [.lit (.bool false)], args := [d1, d2] }
  | _ => none }
def GlueBadnessWrongFalsely : Prop := glueBadnessRow.holds Try.pinned (OpenSpec.ofChange glueBadnessWrong)

/-- 'vinculumlaw27.GlueExact': WHATEVER THE INPUT: true; the input reads as it did. -/
def glueExactSpec : ChangeSpec := { name := "glueExact", fn := fun _ => fun
  | [d1, d2] => { results := [.lit (.bool true)], args := [d1, d2] }
  | _ => none }
def glueExactRow : OpenClaim := { program := "ytnhplbhjbpdcaaa", sum := "cbfc3ebc84650ec2b9b001bb29b4fab39e97ecc07da204db6127b3809c5dab78", func := "vinculum/vinculumlaw27.GlueExact", spec := "glueExact", unfollowed := true, recurses := true, apart := false }
def GlueExactSaid : Prop := glueExactRow.holds Try.pinned (OpenSpec.ofChange glueExactSpec)

/-- ITS FALSE NEIGHBOUR: 'it returns false'. Refute it at one input. -/
def glueExactWrong : ChangeSpec := { name := "glueExact", fn := fun _ => fun
  | [d1, d2] => { results := [.lit (.bool false)], args := [d1, d2] }
  | _ => none }
def GlueExactWrongFalsely : Prop := glueExactRow.holds Try.pinned (OpenSpec.ofChange glueExactWrong)

/-- 'vinculumlaw27.GlueLimits': WHATEVER THE INPUT: true; the input reads as it did. -/
def glueLimitsSpec : ChangeSpec := { name := "glueLimits", fn := fun _ => fun
  | [d1, d2] => { results := [.lit (.bool true)], args := [d1, d2] }
  | _ => none }
def glueLimitsRow : OpenClaim := { program := "ytnhplbhjbpdcaaa", sum := "cbfc3ebc84650ec2b9b001bb29b4fab39e97ecc07da204db6127b3809c5dab78", func := "vinculum/vinculumlaw27.GlueLimits", spec := "glueLimits", unfollowed := true, recurses := true, apart := false }
def GlueLimitsSaid : Prop := glueLimitsRow.holds Try.pinned (OpenSpec.ofChange glueLimitsSpec)

/-- ITS FALSE NEIGHBOUR: 'it returns false'. Refute it at one input. -/
def glueLimitsWrong : ChangeSpec := { name := "glueLimits", fn := fun _ => fun
  | [d1, d2] => { results := [.lit (.bool false)], args := [d1, d2] }
  | _ => none }
def GlueLimitsWrongFalsely : Prop := glueLimitsRow.holds Try.pinned (OpenSpec.ofChange glueLimitsWrong)

/-- 'vinculumlaw27.GluePlaces': WHATEVER THE INPUT: true; the input reads as it did. -/
def gluePlacesSpec : ChangeSpec := { name := "gluePlaces", fn := fun _ => fun
  | [d1, d2, d3] => { results := [.lit (.bool true)], args := [d1, d2, d3] }
  | _ => none }
def gluePlacesRow : OpenClaim := { program := "ytnhplbhjbpdcaaa", sum := "cbfc3ebc84650ec2b9b001bb29b4fab39e97ecc07da204db6127b3809c5dab78", func := "vinculum/vinculumlaw27.GluePlaces", spec := "gluePlaces", unfollowed := true, recurses := true, apart := false }
def GluePlacesSaid : Prop := gluePlacesRow.holds Try.pinned (OpenSpec.ofChange gluePlacesSpec)

/-- ITS FALSE NEIGHBOUR: 'it returns false'. Refute it at one input. -/
def gluePlacesWrong : ChangeSpec := { name := "gluePlaces", fn := fun _ => fun
  | [d1, d2, d3] => { results := [.lit (.bool false)], args := [d1, d2, d3] }
  | _ => none }
def GluePlacesWrongFalsely : Prop := gluePlacesRow.holds Try.pinned (OpenSpec.ofChange gluePlacesWrong)

/-- 'vinculumlaw27.GlueEqual': WHATEVER THE INPUT: true; the input reads as it did. -/
def glueEqualSpec : ChangeSpec := { name := "glueEqual", fn := fun _ => fun
  | [d1, d2, d3] => { results := [.lit (.bool true)], args := [d1, d2, d3] }
  | _ => none }
def glueEqualRow : OpenClaim := { program := "ytnhplbhjbpdcaaa", sum := "cbfc3ebc84650ec2b9b001bb29b4fab39e97ecc07da204db6127b3809c5dab78", func := "vinculum/vinculumlaw27.GlueEqual", spec := "glueEqual", unfollowed := true, recurses := true, apart := false }
def GlueEqualSaid : Prop := glueEqualRow.holds Try.pinned (OpenSpec.ofChange glueEqualSpec)

/-- ITS FALSE NEIGHBOUR: 'it returns false'. Refute it at one input. -/
def glueEqualWrong : ChangeSpec := { name := "glueEqual", fn := fun _ => fun
  | [d1, d2, d3] => { results := [.lit (.bool false)], args := [d1, d2, d3] }
  | _ => none }
def GlueEqualWrongFalsely : Prop := glueEqualRow.holds Try.pinned (OpenSpec.ofChange glueEqualWrong)

/-- 'vinculumlaw27.GlueShift': WHATEVER THE INPUT: true; the input reads as it did. -/
def glueShiftSpec : ChangeSpec := { name := "glueShift", fn := fun _ => fun
  | [d1, d2, d3] => { results := [.lit (.bool true)], args := [d1, d2, d3] }
  | _ => none }
def glueShiftRow : OpenClaim := { program := "ytnhplbhjbpdcaaa", sum := "cbfc3ebc84650ec2b9b001bb29b4fab39e97ecc07da204db6127b3809c5dab78", func := "vinculum/vinculumlaw27.GlueShift", spec := "glueShift", unfollowed := true, recurses := true, apart := false }
def GlueShiftSaid : Prop := glueShiftRow.holds Try.pinned (OpenSpec.ofChange glueShiftSpec)

/-- ITS FALSE NEIGHBOUR: 'it returns false'. Refute it at one input. -/
def glueShiftWrong : ChangeSpec := { name := "glueShift", fn := fun _ => fun
  | [d1, d2, d3] => { results := [.lit (.bool false)], args := [d1, d2, d3] }
  | _ => none }
def GlueShiftWrongFalsely : Prop := glueShiftRow.holds Try.pinned (OpenSpec.ofChange glueShiftWrong)

/- THE SECOND FORM. 'bulk': how many values and letters a reading holds, each counted each time it is reached (what is shared counts as often as it is met; a slice's spare places count too). A statement '..UptoSaid' is the law's where the arguments, and the package variables that the reading takes, are together of bulk at most 1048576: NARROWER than '..Said'. Prove '..Said' where nothing that the law and all that it calls make is longer than what came in: it says more and counts as full. Else prove '..UptoSaid'. A law counts once. -/
mutual
def uptoBulk {H : Type} : DataW H → Nat
  | .lit (.string bytes) => bytes.length + 1
  | .lit _ => 1
  | .nil => 1
  | .ptr d => uptoBulk d + 1
  | .slice elems spare => uptoBulkAll elems + uptoBulkAll spare + 1
  | .agg parts => uptoBulkAll parts + 1
  | .iface _ d => uptoBulk d + 1
  | .map entries => uptoBulkEntries entries + 1
  | .held _ => 1
def uptoBulkAll {H : Type} : List (DataW H) → Nat
  | [] => 0
  | d :: r => uptoBulk d + uptoBulkAll r
def uptoBulkEntries {H : Type} : List (Lit × DataW H) → Nat
  | [] => 0
  | x :: r => uptoBulkEntry x + uptoBulkEntries r
def uptoBulkEntry {H : Type} : Lit × DataW H → Nat
  | (.string bytes, d) => bytes.length + uptoBulk d + 1
  | (_, d) => uptoBulk d + 1
 end
def uptoSmall : (H : Type) → List (DataW H) → Bool := fun _ ds => decide (uptoBulkAll ds ≤ 1048576)
def OpenSpec.upto (s : _root_.Go.ChangeSpec) : _root_.Go.OpenSpec := { _root_.Go.OpenSpec.ofChange s with cond := some uptoSmall }

/-- 'vinculumlaw27.GlueMeasures', WHERE WHAT IT READS IS OF BULK AT MOST 1048576: true; the input reads as it did. -/
def glueMeasuresUptoRow : OpenClaim := { program := "ytnhplbhjbpdcaaa", sum := "cbfc3ebc84650ec2b9b001bb29b4fab39e97ecc07da204db6127b3809c5dab78", func := "vinculum/vinculumlaw27.GlueMeasures", spec := "glueMeasures", unfollowed := true, recurses := true, apart := false, narrowed := true }
def GlueMeasuresUptoSaid : Prop := glueMeasuresUptoRow.holds Try.pinned (OpenSpec.upto glueMeasuresSpec)

/-- 'vinculumlaw27.GlueSet', WHERE WHAT IT READS IS OF BULK AT MOST 1048576: true; the input reads as it did. -/
def glueSetUptoRow : OpenClaim := { program := "ytnhplbhjbpdcaaa", sum := "cbfc3ebc84650ec2b9b001bb29b4fab39e97ecc07da204db6127b3809c5dab78", func := "vinculum/vinculumlaw27.GlueSet", spec := "glueSet", unfollowed := true, recurses := true, apart := false, narrowed := true }
def GlueSetUptoSaid : Prop := glueSetUptoRow.holds Try.pinned (OpenSpec.upto glueSetSpec)

/-- 'vinculumlaw27.GlueBadness', WHERE WHAT IT READS IS OF BULK AT MOST 1048576: true; the input reads as it did. -/
def glueBadnessUptoRow : OpenClaim := { program := "ytnhplbhjbpdcaaa", sum := "cbfc3ebc84650ec2b9b001bb29b4fab39e97ecc07da204db6127b3809c5dab78", func := "vinculum/vinculumlaw27.GlueBadness", spec := "glueBadness", unfollowed := true, recurses := true, apart := false, narrowed := true }
def GlueBadnessUptoSaid : Prop := glueBadnessUptoRow.holds Try.pinned (OpenSpec.upto glueBadnessSpec)

/-- 'vinculumlaw27.GlueExact', WHERE WHAT IT READS IS OF BULK AT MOST 1048576: true; the input reads as it did. -/
def glueExactUptoRow : OpenClaim := { program := "ytnhplbhjbpdcaaa", sum := "cbfc3ebc84650ec2b9b001bb29b4fab39e97ecc07da204db6127b3809c5dab78", func := "vinculum/vinculumlaw27.GlueExact", spec := "glueExact", unfollowed := true, recurses := true, apart := false, narrowed := true }
def GlueExactUptoSaid : Prop := glueExactUptoRow.holds Try.pinned (OpenSpec.upto glueExactSpec)

/-- 'vinculumlaw27.GlueLimits', WHERE WHAT IT READS IS OF BULK AT MOST 1048576: true; the input reads as it did. -/
def glueLimitsUptoRow : OpenClaim := { program := "ytnhplbhjbpdcaaa", sum := "cbfc3ebc84650ec2b9b001bb29b4fab39e97ecc07da204db6127b3809c5dab78", func := "vinculum/vinculumlaw27.GlueLimits", spec := "glueLimits", unfollowed := true, recurses := true, apart := false, narrowed := true }
def GlueLimitsUptoSaid : Prop := glueLimitsUptoRow.holds Try.pinned (OpenSpec.upto glueLimitsSpec)

/-- 'vinculumlaw27.GluePlaces', WHERE WHAT IT READS IS OF BULK AT MOST 1048576: true; the input reads as it did. -/
def gluePlacesUptoRow : OpenClaim := { program := "ytnhplbhjbpdcaaa", sum := "cbfc3ebc84650ec2b9b001bb29b4fab39e97ecc07da204db6127b3809c5dab78", func := "vinculum/vinculumlaw27.GluePlaces", spec := "gluePlaces", unfollowed := true, recurses := true, apart := false, narrowed := true }
def GluePlacesUptoSaid : Prop := gluePlacesUptoRow.holds Try.pinned (OpenSpec.upto gluePlacesSpec)

/-- 'vinculumlaw27.GlueEqual', WHERE WHAT IT READS IS OF BULK AT MOST 1048576: true; the input reads as it did. -/
def glueEqualUptoRow : OpenClaim := { program := "ytnhplbhjbpdcaaa", sum := "cbfc3ebc84650ec2b9b001bb29b4fab39e97ecc07da204db6127b3809c5dab78", func := "vinculum/vinculumlaw27.GlueEqual", spec := "glueEqual", unfollowed := true, recurses := true, apart := false, narrowed := true }
def GlueEqualUptoSaid : Prop := glueEqualUptoRow.holds Try.pinned (OpenSpec.upto glueEqualSpec)

/-- 'vinculumlaw27.GlueShift', WHERE WHAT IT READS IS OF BULK AT MOST 1048576: true; the input reads as it did. -/
def glueShiftUptoRow : OpenClaim := { program := "ytnhplbhjbpdcaaa", sum := "cbfc3ebc84650ec2b9b001bb29b4fab39e97ecc07da204db6127b3809c5dab78", func := "vinculum/vinculumlaw27.GlueShift", spec := "glueShift", unfollowed := true, recurses := true, apart := false, narrowed := true }
def GlueShiftUptoSaid : Prop := glueShiftUptoRow.holds Try.pinned (OpenSpec.upto glueShiftSpec)

end Rows
end Go.Proofs.Ytnhplbhjbpdcaaa
