/-
  NARROWER THAN 'FOR EVERY INPUT', by the rows' own cells (each row's printed sentence says how): VpackColumn: loops · VpackCenter: loops · VpackStacks: loops · VpackBases: loops · VpackMiddle: loops.
  DERIVED. THE GIVEN ROWS OF THIS SEAT. 5 by the template 'for every input the law returns true; each argument reads behind the call as it read before'; 0 by the template 'total and deterministic' (their statements: YtonahgdchngabaaTotals.lean).
  GIVEN WITH THE SEED: the statements are not yours to turn. If you find one false, say at which input.
  Laid BY PROGRAM, IN A SANDBOX (cutbox-rows.mjs): the forced cells as the released guide's own fill.sh prints them over the translation 62c88be9c81e14a1… (all of the seat's roots in one cut). By AI agents, Wed Nov 11 2026. No macro, syntax, notation, axiom, sorry.
-/
import Derived.Test.YtonahgdchngabaaChecked
import GoSem.Claim
import GoSem.ClaimJoined
import GoSem.ClaimMapViews
import Derived.JoinedTies
import Derived.KernelRfl
namespace Go.Proofs.Ytonahgdchngabaa
/- THE CELL 'sum', in the pinned program and in every row, IS THE sha256 OF THE DUMP (.gsa) THAT YtonahgdchngabaaProg.lean LOADS. Nothing in Lean hashes anything: it is a label: what it is worth is what the hold of that sum in a sandbox is worth. -/
noncomputable def Try.pinned : Pinned := { name := "ytonahgdchngabaa", sum := "62c88be9c81e14a1ac46076f2ceec3ef48eadc8de973b4d01568a544abe749c7", checked := Try.checked }
namespace Rows
def none {H : Type} : Left H := { results := [], args := [] }

/-- 'vinculumlaw30.VpackColumn': WHATEVER THE INPUT: true; the input reads as it did. -/
def vpackColumnSpec : ChangeSpec := { name := "vpackColumn", fn := fun _ => fun
  | [d1, d2, d3] => { results := [.lit (.bool true)], args := [d1, d2, d3] }
  | _ => none }
def vpackColumnRow : OpenClaim := { program := "ytonahgdchngabaa", sum := "62c88be9c81e14a1ac46076f2ceec3ef48eadc8de973b4d01568a544abe749c7", func := "vinculum/vinculumlaw30.VpackColumn", spec := "vpackColumn", unfollowed := true, recurses := true, loops := true, apart := false }
def VpackColumnSaid : Prop := vpackColumnRow.holds Try.pinned (OpenSpec.ofChange vpackColumnSpec)

/-- ITS FALSE NEIGHBOUR: 'it returns false'. Refute it at one input. -/
def vpackColumnWrong : ChangeSpec := { name := "vpackColumn", fn := fun _ => fun
  | [d1, d2, d3] => { results := [.lit (.bool false)], args := [d1, d2, d3] }
  | _ => none }
def VpackColumnWrongFalsely : Prop := vpackColumnRow.holds Try.pinned (OpenSpec.ofChange vpackColumnWrong)

/-- 'vinculumlaw30.VpackCenter': WHATEVER THE INPUT: true; the input reads as it did. -/
def vpackCenterSpec : ChangeSpec := { name := "vpackCenter", fn := fun _ => fun
  | [d1, d2] => { results := [.lit (.bool true)], args := [d1, d2] }
  | _ => none }
def vpackCenterRow : OpenClaim := { program := "ytonahgdchngabaa", sum := "62c88be9c81e14a1ac46076f2ceec3ef48eadc8de973b4d01568a544abe749c7", func := "vinculum/vinculumlaw30.VpackCenter", spec := "vpackCenter", unfollowed := true, recurses := true, loops := true, apart := false }
def VpackCenterSaid : Prop := vpackCenterRow.holds Try.pinned (OpenSpec.ofChange vpackCenterSpec)

/-- ITS FALSE NEIGHBOUR: 'it returns false'. Refute it at one input. -/
def vpackCenterWrong : ChangeSpec := { name := "vpackCenter", fn := fun _ => fun
  | [d1, d2] => { results := [.lit (.bool false)], args := [d1, d2] }
  | _ => none }
def VpackCenterWrongFalsely : Prop := vpackCenterRow.holds Try.pinned (OpenSpec.ofChange vpackCenterWrong)

/-- 'vinculumlaw30.VpackStacks': WHATEVER THE INPUT: true; the input reads as it did. -/
def vpackStacksSpec : ChangeSpec := { name := "vpackStacks", fn := fun _ => fun
  | [d1, d2, d3] => { results := [.lit (.bool true)], args := [d1, d2, d3] }
  | _ => none }
def vpackStacksRow : OpenClaim := { program := "ytonahgdchngabaa", sum := "62c88be9c81e14a1ac46076f2ceec3ef48eadc8de973b4d01568a544abe749c7", func := "vinculum/vinculumlaw30.VpackStacks", spec := "vpackStacks", unfollowed := true, recurses := true, loops := true, apart := false }
def VpackStacksSaid : Prop := vpackStacksRow.holds Try.pinned (OpenSpec.ofChange vpackStacksSpec)

/-- ITS FALSE NEIGHBOUR: 'it returns false'. Refute it at one input. -/
def vpackStacksWrong : ChangeSpec := { name := "vpackStacks", fn := fun _ => fun
  | [d1, d2, d3] => { results := [.lit (.bool false)], args := [d1, d2, d3] }
  | _ => none }
def VpackStacksWrongFalsely : Prop := vpackStacksRow.holds Try.pinned (OpenSpec.ofChange vpackStacksWrong)

/-- 'vinculumlaw30.VpackBases': WHATEVER THE INPUT: true; the input reads as it did. -/
def vpackBasesSpec : ChangeSpec := { name := "vpackBases", fn := fun _ => fun
  | [d1, d2, d3] => { results := [.lit (.bool true)], args := [d1, d2, d3] }
  | _ => none }
def vpackBasesRow : OpenClaim := { program := "ytonahgdchngabaa", sum := "62c88be9c81e14a1ac46076f2ceec3ef48eadc8de973b4d01568a544abe749c7", func := "vinculum/vinculumlaw30.VpackBases", spec := "vpackBases", unfollowed := true, recurses := true, loops := true, apart := false }
def VpackBasesSaid : Prop := vpackBasesRow.holds Try.pinned (OpenSpec.ofChange vpackBasesSpec)

/-- ITS FALSE NEIGHBOUR: 'it returns false'. Refute it at one input. -/
def vpackBasesWrong : ChangeSpec := { name := "vpackBases", fn := fun _ => fun
  | [d1, d2, d3] => { results := [.lit (.bool false)], args := [d1, d2, d3] }
  | _ => none }
def VpackBasesWrongFalsely : Prop := vpackBasesRow.holds Try.pinned (OpenSpec.ofChange vpackBasesWrong)

/-- 'vinculumlaw30.VpackMiddle': WHATEVER THE INPUT: true; the input reads as it did. -/
def vpackMiddleSpec : ChangeSpec := { name := "vpackMiddle", fn := fun _ => fun
  | [d1, d2] => { results := [.lit (.bool true)], args := [d1, d2] }
  | _ => none }
def vpackMiddleRow : OpenClaim := { program := "ytonahgdchngabaa", sum := "62c88be9c81e14a1ac46076f2ceec3ef48eadc8de973b4d01568a544abe749c7", func := "vinculum/vinculumlaw30.VpackMiddle", spec := "vpackMiddle", unfollowed := true, recurses := true, loops := true, apart := false }
def VpackMiddleSaid : Prop := vpackMiddleRow.holds Try.pinned (OpenSpec.ofChange vpackMiddleSpec)

/-- ITS FALSE NEIGHBOUR: 'it returns false'. Refute it at one input. -/
def vpackMiddleWrong : ChangeSpec := { name := "vpackMiddle", fn := fun _ => fun
  | [d1, d2] => { results := [.lit (.bool false)], args := [d1, d2] }
  | _ => none }
def VpackMiddleWrongFalsely : Prop := vpackMiddleRow.holds Try.pinned (OpenSpec.ofChange vpackMiddleWrong)

/- THE SECOND FORM. 'bulk': how many values and letters a reading holds, each counted each time it is reached (what is shared counts as often as it is met; a slice's spare places count too). A statement '..UptoSaid' is the law's where the arguments, and the package variables that the reading takes, are together of bulk at most 1048576: NARROWER than '..Said'. Prove '..Said' where nothing that the law and all that it calls make is longer than what came in: it says more and counts as full. Else prove '..UptoSaid'. A law counts once. -/
mutual
def uptoBulk {H : Type} : DataW H → Nat
  | .lit (.string bytes) => bytes.length + 1
  | .lit _ => 1
  | .nil => 1
  | .ptr d => uptoBulk d + 1
  | .slice elems spare => uptoBulkAll elems + uptoBulkAll spare + 1
  | .agg parts => uptoBulkAll parts + 1
  | .iface _ d => uptoBulk d + 1
  | .map entries => uptoBulkEntries entries + 1
  | .held _ => 1
def uptoBulkAll {H : Type} : List (DataW H) → Nat
  | [] => 0
  | d :: r => uptoBulk d + uptoBulkAll r
def uptoBulkEntries {H : Type} : List (Lit × DataW H) → Nat
  | [] => 0
  | x :: r => uptoBulkEntry x + uptoBulkEntries r
def uptoBulkEntry {H : Type} : Lit × DataW H → Nat
  | (.string bytes, d) => bytes.length + uptoBulk d + 1
  | (_, d) => uptoBulk d + 1
 end
def uptoSmall : (H : Type) → List (DataW H) → Bool := fun _ ds => decide (uptoBulkAll ds ≤ 1048576)
def OpenSpec.upto (s : _root_.Go.ChangeSpec) : _root_.Go.OpenSpec := { _root_.Go.OpenSpec.ofChange s with cond := some uptoSmall }

/-- 'vinculumlaw30.VpackColumn', WHERE WHAT IT READS IS OF BULK AT MOST 1048576: true; the input reads as it did. -/
def vpackColumnUptoRow : OpenClaim := { program := "ytonahgdchngabaa", sum := "62c88be9c81e14a1ac46076f2ceec3ef48eadc8de973b4d01568a544abe749c7", func := "vinculum/vinculumlaw30.VpackColumn", spec := "vpackColumn", unfollowed := true, recurses := true, loops := true, apart := false, narrowed := true }
def VpackColumnUptoSaid : Prop := vpackColumnUptoRow.holds Try.pinned (OpenSpec.upto vpackColumnSpec)

/-- 'vinculumlaw30.VpackCenter', WHERE WHAT IT READS IS OF BULK AT MOST 1048576: true; the input reads as it did. -/
def vpackCenterUptoRow : OpenClaim := { program := "ytonahgdchngabaa", sum := "62c88be9c81e14a1ac46076f2ceec3ef48eadc8de973b4d01568a544abe749c7", func := "vinculum/vinculumlaw30.VpackCenter", spec := "vpackCenter", unfollowed := true, recurses := true, loops := true, apart := false, narrowed := true }
def VpackCenterUptoSaid : Prop := vpackCenterUptoRow.holds Try.pinned (OpenSpec.upto vpackCenterSpec)

/-- 'vinculumlaw30.VpackStacks', WHERE WHAT IT READS IS OF BULK AT MOST 1048576: true; the input reads as it did. -/
def vpackStacksUptoRow : OpenClaim := { program := "ytonahgdchngabaa", sum := "62c88be9c81e14a1ac46076f2ceec3ef48eadc8de973b4d01568a544abe749c7", func := "vinculum/vinculumlaw30.VpackStacks", spec := "vpackStacks", unfollowed := true, recurses := true, loops := true, apart := false, narrowed := true }
def VpackStacksUptoSaid : Prop := vpackStacksUptoRow.holds Try.pinned (OpenSpec.upto vpackStacksSpec)

/-- 'vinculumlaw30.VpackBases', WHERE WHAT IT READS IS OF BULK AT MOST 1048576: true; the input reads as it did. -/
def vpackBasesUptoRow : OpenClaim := { program := "ytonahgdchngabaa", sum := "62c88be9c81e14a1ac46076f2ceec3ef48eadc8de973b4d01568a544abe749c7", func := "vinculum/vinculumlaw30.VpackBases", spec := "vpackBases", unfollowed := true, recurses := true, loops := true, apart := false, narrowed := true }
def VpackBasesUptoSaid : Prop := vpackBasesUptoRow.holds Try.pinned (OpenSpec.upto vpackBasesSpec)

/-- 'vinculumlaw30.VpackMiddle', WHERE WHAT IT READS IS OF BULK AT MOST 1048576: true; the input reads as it did. -/
def vpackMiddleUptoRow : OpenClaim := { program := "ytonahgdchngabaa", sum := "62c88be9c81e14a1ac46076f2ceec3ef48eadc8de973b4d01568a544abe749c7", func := "vinculum/vinculumlaw30.VpackMiddle", spec := "vpackMiddle", unfollowed := true, recurses := true, loops := true, apart := false, narrowed := true }
def VpackMiddleUptoSaid : Prop := vpackMiddleUptoRow.holds Try.pinned (OpenSpec.upto vpackMiddleSpec)

end Rows
end Go.Proofs.Ytonahgdchngabaa
