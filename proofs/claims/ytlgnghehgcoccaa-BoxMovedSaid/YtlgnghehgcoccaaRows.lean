/-
  NARROWER THAN 'FOR EVERY INPUT', by the rows' own cells (each row's printed sentence says how): BoxEqual: loops · BoxMakes: loops · BoxMoved: loops · BoxValid: loops.
  DERIVED. THE GIVEN ROWS OF THIS SEAT. 4 by the template 'for every input the law returns true; each argument reads behind the call as it read before'; 0 by the template 'total and deterministic' (their statements: YtlgnghehgcoccaaTotals.lean).
  GIVEN WITH THE SEED: the statements are not yours to turn. If you find one false, say at which input.
  Laid BY PROGRAM, IN A SANDBOX (cutbox-rows.mjs): the forced cells as the released guide's own fill.sh prints them over the translation ef853e1f296d7257… (all of the seat's roots in one cut). By AI agents, Wed Nov 11 2026. No macro, syntax, notation, axiom, sorry.
-/
import Derived.Test.YtlgnghehgcoccaaChecked
import GoSem.Claim
import GoSem.ClaimJoined
import GoSem.ClaimMapViews
import Derived.JoinedTies
import Derived.KernelRfl
namespace Go.Proofs.Ytlgnghehgcoccaa
/- THE CELL 'sum', in the pinned program and in every row, IS THE sha256 OF THE DUMP (.gsa) THAT YtlgnghehgcoccaaProg.lean LOADS. Nothing in Lean hashes anything: it is a label: what it is worth is what the hold of that sum in a sandbox is worth. -/
noncomputable def Try.pinned : Pinned := { name := "ytlgnghehgcoccaa", sum := "ef853e1f296d7257fc65bbe2e567723ab59faef57d78214d8e6a820506aad7c9", checked := Try.checked }
namespace Rows
def none {H : Type} : Left H := { results := [], args := [] }

/-- 'vinculumlaw28.BoxEqual': WHATEVER THE INPUT: true; the input reads as it did. -/
def boxEqualSpec : ChangeSpec := { name := "boxEqual", fn := fun _ => fun
  | [d1, d2] => { results := [.lit (.bool true)], args := [d1, d2] }
  | _ => none }
def boxEqualRow : OpenClaim := { program := "ytlgnghehgcoccaa", sum := "ef853e1f296d7257fc65bbe2e567723ab59faef57d78214d8e6a820506aad7c9", func := "vinculum/vinculumlaw28.BoxEqual", spec := "boxEqual", recurses := true, loops := true, apart := false }
def BoxEqualSaid : Prop := boxEqualRow.holds Try.pinned (OpenSpec.ofChange boxEqualSpec)

/-- ITS FALSE NEIGHBOUR: 'it returns false'. Refute it at one input. -/
def boxEqualWrong : ChangeSpec := { name := "boxEqual", fn := fun _ => fun
  | [d1, d2] => { results := [.lit (.bool false)], args := [d1, d2] }
  | _ => none }
def BoxEqualWrongFalsely : Prop := boxEqualRow.holds Try.pinned (OpenSpec.ofChange boxEqualWrong)

/-- 'vinculumlaw28.BoxMakes': WHATEVER THE INPUT: true; the input reads as it did. -/
def boxMakesSpec : ChangeSpec := { name := "boxMakes", fn := fun _ => fun
  | [d1, d2, d3] => { results := [.lit (.bool true)], args := [d1, d2, d3] }
  | _ => none }
def boxMakesRow : OpenClaim := { program := "ytlgnghehgcoccaa", sum := "ef853e1f296d7257fc65bbe2e567723ab59faef57d78214d8e6a820506aad7c9", func := "vinculum/vinculumlaw28.BoxMakes", spec := "boxMakes", recurses := true, loops := true, apart := false }
def BoxMakesSaid : Prop := boxMakesRow.holds Try.pinned (OpenSpec.ofChange boxMakesSpec)

/-- ITS FALSE NEIGHBOUR: 'it returns false'. Refute it at one input. -/
def boxMakesWrong : ChangeSpec := { name := "boxMakes", fn := fun _ => fun
  | [d1, d2, d3] => { results := [.lit (.bool false)], args := [d1, d2, d3] }
  | _ => none }
def BoxMakesWrongFalsely : Prop := boxMakesRow.holds Try.pinned (OpenSpec.ofChange boxMakesWrong)

/-- 'vinculumlaw28.BoxMoved': WHATEVER THE INPUT: true; the input reads as it did. -/
def boxMovedSpec : ChangeSpec := { name := "boxMoved", fn := fun _ => fun
  | [d1, d2, d3] => { results := [.lit (.bool true)], args := [d1, d2, d3] }
  | _ => none }
def boxMovedRow : OpenClaim := { program := "ytlgnghehgcoccaa", sum := "ef853e1f296d7257fc65bbe2e567723ab59faef57d78214d8e6a820506aad7c9", func := "vinculum/vinculumlaw28.BoxMoved", spec := "boxMoved", unfollowed := true, recurses := true, loops := true, apart := false }
def BoxMovedSaid : Prop := boxMovedRow.holds Try.pinned (OpenSpec.ofChange boxMovedSpec)

/-- ITS FALSE NEIGHBOUR: 'it returns false'. Refute it at one input. -/
def boxMovedWrong : ChangeSpec := { name := "boxMoved", fn := fun _ => fun
  | [d1, d2, d3] => { results := [.lit (.bool false)], args := [d1, d2, d3] }
  | _ => none }
def BoxMovedWrongFalsely : Prop := boxMovedRow.holds Try.pinned (OpenSpec.ofChange boxMovedWrong)

/-- 'vinculumlaw28.BoxValid': WHATEVER THE INPUT: true; the input reads as it did. -/
def boxValidSpec : ChangeSpec := { name := "boxValid", fn := fun _ => fun
  | [d] => { results := [.lit (.bool true)], args := [d] }
  | _ => none }
def boxValidRow : OpenClaim := { program := "ytlgnghehgcoccaa", sum := "ef853e1f296d7257fc65bbe2e567723ab59faef57d78214d8e6a820506aad7c9", func := "vinculum/vinculumlaw28.BoxValid", spec := "boxValid", recurses := true, loops := true, apart := false }
def BoxValidSaid : Prop := boxValidRow.holds Try.pinned (OpenSpec.ofChange boxValidSpec)

/-- ITS FALSE NEIGHBOUR: 'it returns false'. Refute it at one input. -/
def boxValidWrong : ChangeSpec := { name := "boxValid", fn := fun _ => fun
  | [d] => { results := [.lit (.bool false)], args := [d] }
  | _ => none }
def BoxValidWrongFalsely : Prop := boxValidRow.holds Try.pinned (OpenSpec.ofChange boxValidWrong)

/- THE SECOND FORM. 'bulk': how many values and letters a reading holds, each counted each time it is reached (what is shared counts as often as it is met; a slice's spare places count too). A statement '..UptoSaid' is the law's where the arguments, and the package variables that the reading takes, are together of bulk at most 1048576: NARROWER than '..Said'. Prove '..Said' where nothing that the law and all that it calls make is longer than what came in: it says more and counts as full. Else prove '..UptoSaid'. A law counts once. -/
mutual
def uptoBulk {H : Type} : DataW H → Nat
  | .lit (.string bytes) => bytes.length + 1
  | .lit _ => 1
  | .nil => 1
  | .ptr d => uptoBulk d + 1
  | .slice elems spare => uptoBulkAll elems + uptoBulkAll spare + 1
  | .agg parts => uptoBulkAll parts + 1
  | .iface _ d => uptoBulk d + 1
  | .map entries => uptoBulkEntries entries + 1
  | .held _ => 1
def uptoBulkAll {H : Type} : List (DataW H) → Nat
  | [] => 0
  | d :: r => uptoBulk d + uptoBulkAll r
def uptoBulkEntries {H : Type} : List (Lit × DataW H) → Nat
  | [] => 0
  | x :: r => uptoBulkEntry x + uptoBulkEntries r
def uptoBulkEntry {H : Type} : Lit × DataW H → Nat
  | (.string bytes, d) => bytes.length + uptoBulk d + 1
  | (_, d) => uptoBulk d + 1
 end
def uptoSmall : (H : Type) → List (DataW H) → Bool := fun _ ds => decide (uptoBulkAll ds ≤ 1048576)
def OpenSpec.upto (s : _root_.Go.ChangeSpec) : _root_.Go.OpenSpec := { _root_.Go.OpenSpec.ofChange s with cond := some uptoSmall }

/-- 'vinculumlaw28.BoxEqual', WHERE WHAT IT READS IS OF BULK AT MOST 1048576: true; the input reads as it did. -/
def boxEqualUptoRow : OpenClaim := { program := "ytlgnghehgcoccaa", sum := "ef853e1f296d7257fc65bbe2e567723ab59faef57d78214d8e6a820506aad7c9", func := "vinculum/vinculumlaw28.BoxEqual", spec := "boxEqual", recurses := true, loops := true, apart := false, narrowed := true }
def BoxEqualUptoSaid : Prop := boxEqualUptoRow.holds Try.pinned (OpenSpec.upto boxEqualSpec)

/-- 'vinculumlaw28.BoxMakes', WHERE WHAT IT READS IS OF BULK AT MOST 1048576: true; the input reads as it did. -/
def boxMakesUptoRow : OpenClaim := { program := "ytlgnghehgcoccaa", sum := "ef853e1f296d7257fc65bbe2e567723ab59faef57d78214d8e6a820506aad7c9", func := "vinculum/vinculumlaw28.BoxMakes", spec := "boxMakes", recurses := true, loops := true, apart := false, narrowed := true }
def BoxMakesUptoSaid : Prop := boxMakesUptoRow.holds Try.pinned (OpenSpec.upto boxMakesSpec)

/-- 'vinculumlaw28.BoxMoved', WHERE WHAT IT READS IS OF BULK AT MOST 1048576: true; the input reads as it did. -/
def boxMovedUptoRow : OpenClaim := { program := "ytlgnghehgcoccaa", sum := "ef853e1f296d7257fc65bbe2e567723ab59faef57d78214d8e6a820506aad7c9", func := "vinculum/vinculumlaw28.BoxMoved", spec := "boxMoved", unfollowed := true, recurses := true, loops := true, apart := false, narrowed := true }
def BoxMovedUptoSaid : Prop := boxMovedUptoRow.holds Try.pinned (OpenSpec.upto boxMovedSpec)

/-- 'vinculumlaw28.BoxValid', WHERE WHAT IT READS IS OF BULK AT MOST 1048576: true; the input reads as it did. -/
def boxValidUptoRow : OpenClaim := { program := "ytlgnghehgcoccaa", sum := "ef853e1f296d7257fc65bbe2e567723ab59faef57d78214d8e6a820506aad7c9", func := "vinculum/vinculumlaw28.BoxValid", spec := "boxValid", recurses := true, loops := true, apart := false, narrowed := true }
def BoxValidUptoSaid : Prop := boxValidUptoRow.holds Try.pinned (OpenSpec.upto boxValidSpec)

end Rows
end Go.Proofs.Ytlgnghehgcoccaa
