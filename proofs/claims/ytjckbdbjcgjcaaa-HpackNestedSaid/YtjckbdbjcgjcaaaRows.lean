/-
  NARROWER THAN 'FOR EVERY INPUT', by the rows' own cells (each row's printed sentence says how): HpackSpread: loops · HpackFills: loops · HpackRow: loops · HpackTight: loops · HpackNested: loops · HpackCenters: loops · HpackAlign: loops.
  DERIVED. THE GIVEN ROWS OF THIS SEAT. 7 by the template 'for every input the law returns true; each argument reads behind the call as it read before'; 0 by the template 'total and deterministic' (their statements: YtjckbdbjcgjcaaaTotals.lean).
  GIVEN WITH THE SEED: the statements are not yours to turn. If you find one false, say at which input.
  Laid BY PROGRAM, IN A SANDBOX (cutbox-rows.mjs): the forced cells as the released guide's own fill.sh prints them over the translation 99e2e06f26da2b7d… (all of the seat's roots in one cut). By AI agents, Wed Nov 11 2026. No macro, syntax, notation, axiom, sorry.
-/
import Derived.Test.YtjckbdbjcgjcaaaChecked
import GoSem.Claim
import GoSem.ClaimJoined
import GoSem.ClaimMapViews
import Derived.JoinedTies
import Derived.KernelRfl
namespace Go.Proofs.Ytjckbdbjcgjcaaa
/- THE CELL 'sum', in the pinned program and in every row, IS THE sha256 OF THE DUMP (.gsa) THAT YtjckbdbjcgjcaaaProg.lean LOADS. Nothing in Lean hashes anything: it is a label: what it is worth is what the hold of that sum in a sandbox is worth. -/
noncomputable def Try.pinned : Pinned := { name := "ytjckbdbjcgjcaaa", sum := "99e2e06f26da2b7d200c6698eaa012270939330c0150d5e0697cbe1767f01e40", checked := Try.checked }
namespace Rows
def none {H : Type} : Left H := { results := [], args := [] }

/-- 'vinculumlaw29.HpackSpread': WHATEVER THE INPUT: true; the input reads as it did. -/
def hpackSpreadSpec : ChangeSpec := { name := "hpackSpread", fn := fun _ => fun
  | [d1, d2, d3] => { results := [.lit (.bool true)], args := [d1, d2, d3] }
  | _ => none }
def hpackSpreadRow : OpenClaim := { program := "ytjckbdbjcgjcaaa", sum := "99e2e06f26da2b7d200c6698eaa012270939330c0150d5e0697cbe1767f01e40", func := "vinculum/vinculumlaw29.HpackSpread", spec := "hpackSpread", unfollowed := true, recurses := true, loops := true, apart := false }
def HpackSpreadSaid : Prop := hpackSpreadRow.holds Try.pinned (OpenSpec.ofChange hpackSpreadSpec)

/-- ITS FALSE NEIGHBOUR: 'it returns false'. Refute it at one input. -/
def hpackSpreadWrong : ChangeSpec := { name := "hpackSpread", fn := fun _ => fun
  | [d1, d2, d3] => { results := [.lit (.bool false)], args := [d1, d2, d3] }
  | _ => none }
def HpackSpreadWrongFalsely : Prop := hpackSpreadRow.holds Try.pinned (OpenSpec.ofChange hpackSpreadWrong)

/-- 'vinculumlaw29.HpackFills': WHATEVER THE INPUT: true; the input reads as it did. -/
def hpackFillsSpec : ChangeSpec := { name := "hpackFills", fn := fun _ => fun
  | [d1, d2, d3] => { results := [.lit (.bool true)], args := [d1, d2, d3] }
  | _ => none }
def hpackFillsRow : OpenClaim := { program := "ytjckbdbjcgjcaaa", sum := "99e2e06f26da2b7d200c6698eaa012270939330c0150d5e0697cbe1767f01e40", func := "vinculum/vinculumlaw29.HpackFills", spec := "hpackFills", unfollowed := true, recurses := true, loops := true, apart := false }
def HpackFillsSaid : Prop := hpackFillsRow.holds Try.pinned (OpenSpec.ofChange hpackFillsSpec)

/-- ITS FALSE NEIGHBOUR: 'it returns false'. Refute it at one input. -/
def hpackFillsWrong : ChangeSpec := { name := "hpackFills", fn := fun _ => fun
  | [d1, d2, d3] => { results := [.lit (.bool false)], args := [d1, d2, d3] }
  | _ => none }
def HpackFillsWrongFalsely : Prop := hpackFillsRow.holds Try.pinned (OpenSpec.ofChange hpackFillsWrong)

/-- 'vinculumlaw29.HpackRow': WHATEVER THE INPUT: true; the input reads as it did. -/
def hpackRowSpec : ChangeSpec := { name := "hpackRow", fn := fun _ => fun
  | [d1, d2] => { results := [.lit (.bool true)], args := [d1, d2] }
  | _ => none }
def hpackRowRow : OpenClaim := { program := "ytjckbdbjcgjcaaa", sum := "99e2e06f26da2b7d200c6698eaa012270939330c0150d5e0697cbe1767f01e40", func := "vinculum/vinculumlaw29.HpackRow", spec := "hpackRow", unfollowed := true, recurses := true, loops := true, apart := false }
def HpackRowSaid : Prop := hpackRowRow.holds Try.pinned (OpenSpec.ofChange hpackRowSpec)

/-- ITS FALSE NEIGHBOUR: 'it returns false'. Refute it at one input. -/
def hpackRowWrong : ChangeSpec := { name := "hpackRow", fn := fun _ => fun
  | [d1, d2] => { results := [.lit (.bool false)], args := [d1, d2] }
  | _ => none }
def HpackRowWrongFalsely : Prop := hpackRowRow.holds Try.pinned (OpenSpec.ofChange hpackRowWrong)

/-- 'vinculumlaw29.HpackTight': WHATEVER THE INPUT: true; the input reads as it did. -/
def hpackTightSpec : ChangeSpec := { name := "hpackTight", fn := fun _ => fun
  | [d1, d2] => { results := [.lit (.bool true)], args := [d1, d2] }
  | _ => none }
def hpackTightRow : OpenClaim := { program := "ytjckbdbjcgjcaaa", sum := "99e2e06f26da2b7d200c6698eaa012270939330c0150d5e0697cbe1767f01e40", func := "vinculum/vinculumlaw29.HpackTight", spec := "hpackTight", unfollowed := true, recurses := true, loops := true, apart := false }
def HpackTightSaid : Prop := hpackTightRow.holds Try.pinned (OpenSpec.ofChange hpackTightSpec)

/-- ITS FALSE NEIGHBOUR: 'it returns false'. Refute it at one input. -/
def hpackTightWrong : ChangeSpec := { name := "hpackTight", fn := fun _ => fun
  | [d1, d2] => { results := [.lit (.bool false)], args := [d1, d2] }
  | _ => none }
def HpackTightWrongFalsely : Prop := hpackTightRow.holds Try.pinned (OpenSpec.ofChange hpackTightWrong)

/-- 'vinculumlaw29.HpackNested': WHATEVER THE INPUT: true; the input reads as it did. -/
def hpackNestedSpec : ChangeSpec := { name := "hpackNested", fn := fun _ => fun
  | [d1, d2, d3] => { results := [.lit (.bool true)], args := [d1, d2, d3] }
  | _ => none }
def hpackNestedRow : OpenClaim := { program := "ytjckbdbjcgjcaaa", sum := "99e2e06f26da2b7d200c6698eaa012270939330c0150d5e0697cbe1767f01e40", func := "vinculum/vinculumlaw29.HpackNested", spec := "hpackNested", unfollowed := true, recurses := true, loops := true, apart := false }
def HpackNestedSaid : Prop := hpackNestedRow.holds Try.pinned (OpenSpec.ofChange hpackNestedSpec)

/-- ITS FALSE NEIGHBOUR: 'it returns false'. Refute it at one input. -/
def hpackNestedWrong : ChangeSpec := { name := "hpackNested", fn := fun _ => fun
  | [d1, d2, d3] => { results := [.lit (.bool false)], args := [d1, d2, d3] }
  | _ => none }
def HpackNestedWrongFalsely : Prop := hpackNestedRow.holds Try.pinned (OpenSpec.ofChange hpackNestedWrong)

/-- 'vinculumlaw29.HpackCenters': WHATEVER THE INPUT: true; the input reads as it did. -/
def hpackCentersSpec : ChangeSpec := { name := "hpackCenters", fn := fun _ => fun
  | [d1, d2] => { results := [.lit (.bool true)], args := [d1, d2] }
  | _ => none }
def hpackCentersRow : OpenClaim := { program := "ytjckbdbjcgjcaaa", sum := "99e2e06f26da2b7d200c6698eaa012270939330c0150d5e0697cbe1767f01e40", func := "vinculum/vinculumlaw29.HpackCenters", spec := "hpackCenters", unfollowed := true, recurses := true, loops := true, apart := false }
def HpackCentersSaid : Prop := hpackCentersRow.holds Try.pinned (OpenSpec.ofChange hpackCentersSpec)

/-- ITS FALSE NEIGHBOUR: 'it returns false'. Refute it at one input. -/
def hpackCentersWrong : ChangeSpec := { name := "hpackCenters", fn := fun _ => fun
  | [d1, d2] => { results := [.lit (.bool false)], args := [d1, d2] }
  | _ => none }
def HpackCentersWrongFalsely : Prop := hpackCentersRow.holds Try.pinned (OpenSpec.ofChange hpackCentersWrong)

/-- 'vinculumlaw29.HpackAlign': WHATEVER THE INPUT: true; the input reads as it did. -/
def hpackAlignSpec : ChangeSpec := { name := "hpackAlign", fn := fun _ => fun
  | [d1, d2] => { results := [.lit (.bool true)], args := [d1, d2] }
  | _ => none }
def hpackAlignRow : OpenClaim := { program := "ytjckbdbjcgjcaaa", sum := "99e2e06f26da2b7d200c6698eaa012270939330c0150d5e0697cbe1767f01e40", func := "vinculum/vinculumlaw29.HpackAlign", spec := "hpackAlign", unfollowed := true, recurses := true, loops := true, apart := false }
def HpackAlignSaid : Prop := hpackAlignRow.holds Try.pinned (OpenSpec.ofChange hpackAlignSpec)

/-- ITS FALSE NEIGHBOUR: 'it returns false'. Refute it at one input. -/
def hpackAlignWrong : ChangeSpec := { name := "hpackAlign", fn := fun _ => fun
  | [d1, d2] => { results := [.lit (.bool false)], args := [d1, d2] }
  | _ => none }
def HpackAlignWrongFalsely : Prop := hpackAlignRow.holds Try.pinned (OpenSpec.ofChange hpackAlignWrong)

/- THE SECOND FORM. 'bulk': how many values and letters a reading holds, each counted each time it is reached (what is shared counts as often as it is met; a slice's spare places count too). A statement '..UptoSaid' is the law's where the arguments, and the package variables that the reading takes, are together of bulk at most 1048576: NARROWER than '..Said'. Prove '..Said' where nothing that the law and all that it calls make is longer than what came in: it says more and counts as full. Else prove '..UptoSaid'. A law counts once. -/
mutual
def uptoBulk {H : Type} : DataW H → Nat
  | .lit (.string bytes) => bytes.length + 1
  | .lit _ => 1
  | .nil => 1
  | .ptr d => uptoBulk d + 1
  | .slice elems spare => uptoBulkAll elems + uptoBulkAll spare + 1
  | .agg parts => uptoBulkAll parts + 1
  | .iface _ d => uptoBulk d + 1
  | .map entries => uptoBulkEntries entries + 1
  | .held _ => 1
def uptoBulkAll {H : Type} : List (DataW H) → Nat
  | [] => 0
  | d :: r => uptoBulk d + uptoBulkAll r
def uptoBulkEntries {H : Type} : List (Lit × DataW H) → Nat
  | [] => 0
  | x :: r => uptoBulkEntry x + uptoBulkEntries r
def uptoBulkEntry {H : Type} : Lit × DataW H → Nat
  | (.string bytes, d) => bytes.length + uptoBulk d + 1
  | (_, d) => uptoBulk d + 1
 end
def uptoSmall : (H : Type) → List (DataW H) → Bool := fun _ ds => decide (uptoBulkAll ds ≤ 1048576)
def OpenSpec.upto (s : _root_.Go.ChangeSpec) : _root_.Go.OpenSpec := { _root_.Go.OpenSpec.ofChange s with cond := some uptoSmall }

/-- 'vinculumlaw29.HpackSpread', WHERE WHAT IT READS IS OF BULK AT MOST 1048576: true; the input reads as it did. -/
def hpackSpreadUptoRow : OpenClaim := { program := "ytjckbdbjcgjcaaa", sum := "99e2e06f26da2b7d200c6698eaa012270939330c0150d5e0697cbe1767f01e40", func := "vinculum/vinculumlaw29.HpackSpread", spec := "hpackSpread", unfollowed := true, recurses := true, loops := true, apart := false, narrowed := true }
def HpackSpreadUptoSaid : Prop := hpackSpreadUptoRow.holds Try.pinned (OpenSpec.upto hpackSpreadSpec)

/-- 'vinculumlaw29.HpackFills', WHERE WHAT IT READS IS OF BULK AT MOST 1048576: true; the input reads as it did. -/
def hpackFillsUptoRow : OpenClaim := { program := "ytjckbdbjcgjcaaa", sum := "99e2e06f26da2b7d200c6698eaa012270939330c0150d5e0697cbe1767f01e40", func := "vinculum/vinculumlaw29.HpackFills", spec := "hpackFills", unfollowed := true, recurses := true, loops := true, apart := false, narrowed := true }
def HpackFillsUptoSaid : Prop := hpackFillsUptoRow.holds Try.pinned (OpenSpec.upto hpackFillsSpec)

/-- 'vinculumlaw29.HpackRow', WHERE WHAT IT READS IS OF BULK AT MOST 1048576: true; the input reads as it did. -/
def hpackRowUptoRow : OpenClaim := { program := "ytjckbdbjcgjcaaa", sum := "99e2e06f26da2b7d200c6698eaa012270939330c0150d5e0697cbe1767f01e40", func := "vinculum/vinculumlaw29.HpackRow", spec := "hpackRow", unfollowed := true, recurses := true, loops := true, apart := false, narrowed := true }
def HpackRowUptoSaid : Prop := hpackRowUptoRow.holds Try.pinned (OpenSpec.upto hpackRowSpec)

/-- 'vinculumlaw29.HpackTight', WHERE WHAT IT READS IS OF BULK AT MOST 1048576: true; the input reads as it did. -/
def hpackTightUptoRow : OpenClaim := { program := "ytjckbdbjcgjcaaa", sum := "99e2e06f26da2b7d200c6698eaa012270939330c0150d5e0697cbe1767f01e40", func := "vinculum/vinculumlaw29.HpackTight", spec := "hpackTight", unfollowed := true, recurses := true, loops := true, apart := false, narrowed := true }
def HpackTightUptoSaid : Prop := hpackTightUptoRow.holds Try.pinned (OpenSpec.upto hpackTightSpec)

/-- 'vinculumlaw29.HpackNested', WHERE WHAT IT READS IS OF BULK AT MOST 1048576: true; the input reads as it did. -/
def hpackNestedUptoRow : OpenClaim := { program := "ytjckbdbjcgjcaaa", sum := "99e2e06f26da2b7d200c6698eaa012270939330c0150d5e0697cbe1767f01e40", func := "vinculum/vinculumlaw29.HpackNested", spec := "hpackNested", unfollowed := true, recurses := true, loops := true, apart := false, narrowed := true }
def HpackNestedUptoSaid : Prop := hpackNestedUptoRow.holds Try.pinned (OpenSpec.upto hpackNestedSpec)

/-- 'vinculumlaw29.HpackCenters', WHERE WHAT IT READS IS OF BULK AT MOST 1048576: true; the input reads as it did. -/
def hpackCentersUptoRow : OpenClaim := { program := "ytjckbdbjcgjcaaa", sum := "99e2e06f26da2b7d200c6698eaa012270939330c0150d5e0697cbe1767f01e40", func := "vinculum/vinculumlaw29.HpackCenters", spec := "hpackCenters", unfollowed := true, recurses := true, loops := true, apart := false, narrowed := true }
def HpackCentersUptoSaid : Prop := hpackCentersUptoRow.holds Try.pinned (OpenSpec.upto hpackCentersSpec)

/-- 'vinculumlaw29.HpackAlign', WHERE WHAT IT READS IS OF BULK AT MOST 1048576: true; the input reads as it did. -/
def hpackAlignUptoRow : OpenClaim := { program := "ytjckbdbjcgjcaaa", sum := "99e2e06f26da2b7d200c6698eaa012270939330c0150d5e0697cbe1767f01e40", func := "vinculum/vinculumlaw29.HpackAlign", spec := "hpackAlign", unfollowed := true, recurses := true, loops := true, apart := false, narrowed := true }
def HpackAlignUptoSaid : Prop := hpackAlignUptoRow.holds Try.pinned (OpenSpec.upto hpackAlignSpec)

end Rows
end Go.Proofs.Ytjckbdbjcgjcaaa
