/-
  No cell of these rows narrows 'for every input' (looked for: loops, veiled, ifaces, maps, wideKeys, modest, calm, conditions, laid).
  DERIVED. THE GIVEN ROWS OF THIS SEAT. 6 by the template 'for every input the law returns true; each argument reads behind the call as it read before'; 0 by the template 'total and deterministic' (their statements: YtdmcddhepgodhaaTotals.lean).
  GIVEN WITH THE SEED: the statements are not yours to turn. If you find one false, say at which input.
  Laid BY PROGRAM, IN A SANDBOX (cutbox-rows.mjs): the forced cells as the released guide's own fill.sh prints them over the translation 256ed158466a4732… (all of the seat's roots in one cut). By AI agents, Wed Nov 11 2026. No macro, syntax, notation, axiom, sorry.
-/
import Derived.Test.YtdmcddhepgodhaaChecked
import GoSem.Claim
import GoSem.ClaimJoined
import GoSem.ClaimMapViews
import Derived.JoinedTies
import Derived.KernelRfl
namespace Go.Proofs.Ytdmcddhepgodhaa
/- THE CELL 'sum', in the pinned program and in every row, IS THE sha256 OF THE DUMP (.gsa) THAT YtdmcddhepgodhaaProg.lean LOADS. Nothing in Lean hashes anything: it is a label: what it is worth is what the hold of that sum in a sandbox is worth. -/
noncomputable def Try.pinned : Pinned := { name := "ytdmcddhepgodhaa", sum := "256ed158466a47321efce9b64d3f38cb3cadcfe6db5f160396de79419d567cf5", checked := Try.checked }
namespace Rows
def none {H : Type} : Left H := { results := [], args := [] }

/-- 'vinculumlaw44.DemeritLine': WHATEVER THE INPUT: true; the input reads as it did. -/
def demeritLineSpec : ChangeSpec := { name := "demeritLine", fn := fun _ => fun
  | [d1, d2] => { results := [.lit (.bool true)], args := [d1, d2] }
  | _ => none }
def demeritLineRow : OpenClaim := { program := "ytdmcddhepgodhaa", sum := "256ed158466a47321efce9b64d3f38cb3cadcfe6db5f160396de79419d567cf5", func := "vinculum/vinculumlaw44.DemeritLine", spec := "demeritLine", unfollowed := true, recurses := true, apart := false }
def DemeritLineSaid : Prop := demeritLineRow.holds Try.pinned (OpenSpec.ofChange demeritLineSpec)

/-- ITS FALSE NEIGHBOUR: 'it returns false'. Refute it at one input. -/
def demeritLineWrong : ChangeSpec := { name := "demeritLine", fn := fun _ => fun
  | [d1, d2] => { results := [.lit (.bool false)], args := [d1, d2] }
  | _ => none }
def DemeritLineWrongFalsely : Prop := demeritLineRow.holds Try.pinned (OpenSpec.ofChange demeritLineWrong)

/-- 'vinculumlaw44.DemeritJoined': WHATEVER THE INPUT: true; the input reads as it did. -/
def demeritJoinedSpec : ChangeSpec := { name := "demeritJoined", fn := fun _ => fun
  | [d1, d2] => { results := [.lit (.bool true)], args := [d1, d2] }
  | _ => none }
def demeritJoinedRow : OpenClaim := { program := "ytdmcddhepgodhaa", sum := "256ed158466a47321efce9b64d3f38cb3cadcfe6db5f160396de79419d567cf5", func := "vinculum/vinculumlaw44.DemeritJoined", spec := "demeritJoined", unfollowed := true, recurses := true, apart := false }
def DemeritJoinedSaid : Prop := demeritJoinedRow.holds Try.pinned (OpenSpec.ofChange demeritJoinedSpec)

/-- ITS FALSE NEIGHBOUR: 'it returns false'. Refute it at one input. -/
def demeritJoinedWrong : ChangeSpec := { name := "demeritJoined", fn := fun _ => fun
  | [d1, d2] => { results := [.lit (.bool false)], args := [d1, d2] }
  | _ => none }
def DemeritJoinedWrongFalsely : Prop := demeritJoinedRow.holds Try.pinned (OpenSpec.ofChange demeritJoinedWrong)

/-- 'vinculumlaw44.DemeritBounds': WHATEVER THE INPUT: true; the input reads as it did. -/
def demeritBoundsSpec : ChangeSpec := { name := "demeritBounds", fn := fun _ => fun
  | [d1, d2] => { results := [.lit (.bool true)], args := [d1, d2] }
  | _ => none }
def demeritBoundsRow : OpenClaim := { program := "ytdmcddhepgodhaa", sum := "256ed158466a47321efce9b64d3f38cb3cadcfe6db5f160396de79419d567cf5", func := "vinculum/vinculumlaw44.DemeritBounds", spec := "demeritBounds", unfollowed := true, recurses := true, apart := false }
def DemeritBoundsSaid : Prop := demeritBoundsRow.holds Try.pinned (OpenSpec.ofChange demeritBoundsSpec)

/-- ITS FALSE NEIGHBOUR: 'it returns false'. Refute it at one input. -/
def demeritBoundsWrong : ChangeSpec := { name := "demeritBounds", fn := fun _ => fun
  | [d1, d2] => { results := [.lit (.bool false)], args := [d1, d2] }
  | _ => none }
def DemeritBoundsWrongFalsely : Prop := demeritBoundsRow.holds Try.pinned (OpenSpec.ofChange demeritBoundsWrong)

/-- 'vinculumlaw44.DemeritTotal': WHATEVER THE INPUT: true; the input reads as it did. -/
def demeritTotalSpec : ChangeSpec := { name := "demeritTotal", fn := fun _ => fun
  | [d1, d2, d3] => { results := [.lit (.bool true)], args := [d1, d2, d3] }
  | _ => none }
def demeritTotalRow : OpenClaim := { program := "ytdmcddhepgodhaa", sum := "256ed158466a47321efce9b64d3f38cb3cadcfe6db5f160396de79419d567cf5", func := "vinculum/vinculumlaw44.DemeritTotal", spec := "demeritTotal", unfollowed := true, recurses := true, apart := false }
def DemeritTotalSaid : Prop := demeritTotalRow.holds Try.pinned (OpenSpec.ofChange demeritTotalSpec)

/-- ITS FALSE NEIGHBOUR: 'it returns false'. Refute it at one input. -/
def demeritTotalWrong : ChangeSpec := { name := "demeritTotal", fn := fun _ => fun
  | [d1, d2, d3] => { results := [.lit (.bool false)], args := [d1, d2, d3] }
  | _ => none }
def DemeritTotalWrongFalsely : Prop := demeritTotalRow.holds Try.pinned (OpenSpec.ofChange demeritTotalWrong)

/-- 'vinculumlaw44.DemeritSum': WHATEVER THE INPUT: true; the input reads as it did. -/
def demeritSumSpec : ChangeSpec := { name := "demeritSum", fn := fun _ => fun
  | [d1, d2, d3] => { results := [.lit (.bool true)], args := [d1, d2, d3] }
  | _ => none }
def demeritSumRow : OpenClaim := { program := "ytdmcddhepgodhaa", sum := "256ed158466a47321efce9b64d3f38cb3cadcfe6db5f160396de79419d567cf5", func := "vinculum/vinculumlaw44.DemeritSum", spec := "demeritSum", unfollowed := true, recurses := true, apart := false }
def DemeritSumSaid : Prop := demeritSumRow.holds Try.pinned (OpenSpec.ofChange demeritSumSpec)

/-- ITS FALSE NEIGHBOUR: 'it returns false'. Refute it at one input. -/
def demeritSumWrong : ChangeSpec := { name := "demeritSum", fn := fun _ => fun
  | [d1, d2, d3] => { results := [.lit (.bool false)], args := [d1, d2, d3] }
  | _ => none }
def DemeritSumWrongFalsely : Prop := demeritSumRow.holds Try.pinned (OpenSpec.ofChange demeritSumWrong)

/-- 'vinculumlaw44.DemeritSingles': WHATEVER THE INPUT: true; the input reads as it did. -/
def demeritSinglesSpec : ChangeSpec := { name := "demeritSingles", fn := fun _ => fun
  | [d1, d2] => { results := [.lit (.bool true)], args := [d1, d2] }
  | _ => none }
def demeritSinglesRow : OpenClaim := { program := "ytdmcddhepgodhaa", sum := "256ed158466a47321efce9b64d3f38cb3cadcfe6db5f160396de79419d567cf5", func := "vinculum/vinculumlaw44.DemeritSingles", spec := "demeritSingles", unfollowed := true, recurses := true, apart := false }
def DemeritSinglesSaid : Prop := demeritSinglesRow.holds Try.pinned (OpenSpec.ofChange demeritSinglesSpec)

/-- ITS FALSE NEIGHBOUR: 'it returns false'. Refute it at one input. -/
def demeritSinglesWrong : ChangeSpec := { name := "demeritSingles", fn := fun _ => fun
  | [d1, d2] => { results := [.lit (.bool false)], args := [d1, d2] }
  | _ => none }
def DemeritSinglesWrongFalsely : Prop := demeritSinglesRow.holds Try.pinned (OpenSpec.ofChange demeritSinglesWrong)

/- THE SECOND FORM. 'bulk': how many values and letters a reading holds, each counted each time it is reached (what is shared counts as often as it is met; a slice's spare places count too). A statement '..UptoSaid' is the law's where the arguments, and the package variables that the reading takes, are together of bulk at most 1048576: NARROWER than '..Said'. Prove '..Said' where nothing that the law and all that it calls make is longer than what came in: it says more and counts as full. Else prove '..UptoSaid'. A law counts once. -/
mutual
def uptoBulk {H : Type} : DataW H → Nat
  | .lit (.string bytes) => bytes.length + 1
  | .lit _ => 1
  | .nil => 1
  | .ptr d => uptoBulk d + 1
  | .slice elems spare => uptoBulkAll elems + uptoBulkAll spare + 1
  | .agg parts => uptoBulkAll parts + 1
  | .iface _ d => uptoBulk d + 1
  | .map entries => uptoBulkEntries entries + 1
  | .held _ => 1
def uptoBulkAll {H : Type} : List (DataW H) → Nat
  | [] => 0
  | d :: r => uptoBulk d + uptoBulkAll r
def uptoBulkEntries {H : Type} : List (Lit × DataW H) → Nat
  | [] => 0
  | x :: r => uptoBulkEntry x + uptoBulkEntries r
def uptoBulkEntry {H : Type} : Lit × DataW H → Nat
  | (.string bytes, d) => bytes.length + uptoBulk d + 1
  | (_, d) => uptoBulk d + 1
 end
def uptoSmall : (H : Type) → List (DataW H) → Bool := fun _ ds => decide (uptoBulkAll ds ≤ 1048576)
def OpenSpec.upto (s : _root_.Go.ChangeSpec) : _root_.Go.OpenSpec := { _root_.Go.OpenSpec.ofChange s with cond := some uptoSmall }

/-- 'vinculumlaw44.DemeritLine', WHERE WHAT IT READS IS OF BULK AT MOST 1048576: true; the input reads as it did. -/
def demeritLineUptoRow : OpenClaim := { program := "ytdmcddhepgodhaa", sum := "256ed158466a47321efce9b64d3f38cb3cadcfe6db5f160396de79419d567cf5", func := "vinculum/vinculumlaw44.DemeritLine", spec := "demeritLine", unfollowed := true, recurses := true, apart := false, narrowed := true }
def DemeritLineUptoSaid : Prop := demeritLineUptoRow.holds Try.pinned (OpenSpec.upto demeritLineSpec)

/-- 'vinculumlaw44.DemeritJoined', WHERE WHAT IT READS IS OF BULK AT MOST 1048576: true; the input reads as it did. -/
def demeritJoinedUptoRow : OpenClaim := { program := "ytdmcddhepgodhaa", sum := "256ed158466a47321efce9b64d3f38cb3cadcfe6db5f160396de79419d567cf5", func := "vinculum/vinculumlaw44.DemeritJoined", spec := "demeritJoined", unfollowed := true, recurses := true, apart := false, narrowed := true }
def DemeritJoinedUptoSaid : Prop := demeritJoinedUptoRow.holds Try.pinned (OpenSpec.upto demeritJoinedSpec)

/-- 'vinculumlaw44.DemeritBounds', WHERE WHAT IT READS IS OF BULK AT MOST 1048576: true; the input reads as it did. -/
def demeritBoundsUptoRow : OpenClaim := { program := "ytdmcddhepgodhaa", sum := "256ed158466a47321efce9b64d3f38cb3cadcfe6db5f160396de79419d567cf5", func := "vinculum/vinculumlaw44.DemeritBounds", spec := "demeritBounds", unfollowed := true, recurses := true, apart := false, narrowed := true }
def DemeritBoundsUptoSaid : Prop := demeritBoundsUptoRow.holds Try.pinned (OpenSpec.upto demeritBoundsSpec)

/-- 'vinculumlaw44.DemeritTotal', WHERE WHAT IT READS IS OF BULK AT MOST 1048576: true; the input reads as it did. -/
def demeritTotalUptoRow : OpenClaim := { program := "ytdmcddhepgodhaa", sum := "256ed158466a47321efce9b64d3f38cb3cadcfe6db5f160396de79419d567cf5", func := "vinculum/vinculumlaw44.DemeritTotal", spec := "demeritTotal", unfollowed := true, recurses := true, apart := false, narrowed := true }
def DemeritTotalUptoSaid : Prop := demeritTotalUptoRow.holds Try.pinned (OpenSpec.upto demeritTotalSpec)

/-- 'vinculumlaw44.DemeritSum', WHERE WHAT IT READS IS OF BULK AT MOST 1048576: true; the input reads as it did. -/
def demeritSumUptoRow : OpenClaim := { program := "ytdmcddhepgodhaa", sum := "256ed158466a47321efce9b64d3f38cb3cadcfe6db5f160396de79419d567cf5", func := "vinculum/vinculumlaw44.DemeritSum", spec := "demeritSum", unfollowed := true, recurses := true, apart := false, narrowed := true }
def DemeritSumUptoSaid : Prop := demeritSumUptoRow.holds Try.pinned (OpenSpec.upto demeritSumSpec)

/-- 'vinculumlaw44.DemeritSingles', WHERE WHAT IT READS IS OF BULK AT MOST 1048576: true; the input reads as it did. -/
def demeritSinglesUptoRow : OpenClaim := { program := "ytdmcddhepgodhaa", sum := "256ed158466a47321efce9b64d3f38cb3cadcfe6db5f160396de79419d567cf5", func := "vinculum/vinculumlaw44.DemeritSingles", spec := "demeritSingles", unfollowed := true, recurses := true, apart := false, narrowed := true }
def DemeritSinglesUptoSaid : Prop := demeritSinglesUptoRow.holds Try.pinned (OpenSpec.upto demeritSinglesSpec)

end Rows
end Go.Proofs.Ytdmcddhepgodhaa
