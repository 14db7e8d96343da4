/- Words on the memory in which pieces and numbers lie. -/
import Derived.Test.YtkamffjncndabaaDemPlain
import Derived.Below
import Derived.Deep.Draws
import Derived.WalkKit
namespace Go.Proofs.Ytkamffjncndabaa
open Go.RowKit
/-- A bound on lengths. -/
def lenMax : Nat := 9223372036854775807
/-- The cells from A on, below block B, hold the pieces ps. -/
def Pcs (w : World) (B : Nat) (A : Option Addr) (ps : List Pc) : Prop :=
  0 < ps.length → ∃ b off, A = some ⟨b, off, none⟩ ∧ b < B ∧ ∀ k, k < ps.length →
    w.cell? ⟨b, off + k * 3, none⟩ = some (.int .i64 (wdAt ps k)) ∧ w.cell? ⟨b, off + k * 3 + 1, none⟩ = some (.int .i64 (spAt ps k)) ∧ w.cell? ⟨b, off + k * 3 + 2, none⟩ = some (.int .i64 (pnAt ps k))
theorem Pcs.below {w w' : World} {B : Nat} {A : Option Addr} {ps : List Pc} (h : Pcs w B A ps) (hb : Below B w w') : Pcs w' B A ps := fun h0 => by
  obtain ⟨b, off, rfl, hB, hc⟩ := h h0
  exact ⟨b, off, rfl, hB, fun k hk => ⟨(hb.cell (p := ⟨b, _, none⟩) hB).trans (hc k hk).1, (hb.cell (p := ⟨b, _, none⟩) hB).trans (hc k hk).2.1, (hb.cell (p := ⟨b, _, none⟩) hB).trans (hc k hk).2.2⟩⟩
theorem Pcs.mono {w : World} {B B' : Nat} {A : Option Addr} {ps : List Pc} (h : Pcs w B A ps) (hB : B ≤ B') : Pcs w B' A ps := fun h0 => by
  obtain ⟨b, off, rfl, hb, hc⟩ := h h0
  exact ⟨b, off, rfl, by omega, hc⟩
/-- The cells from A on, below block B, hold the numbers l. -/
def Ints (w : World) (B : Nat) (A : Option Addr) (l : List Int) : Prop :=
  0 < l.length → ∃ b off, A = some ⟨b, off, none⟩ ∧ b < B ∧ ∀ k, k < l.length → w.cell? ⟨b, off + k, none⟩ = some (.int .i64 (lAt l k))
theorem Ints.below {w w' : World} {B : Nat} {A : Option Addr} {l : List Int} (h : Ints w B A l) (hb : Below B w w') : Ints w' B A l := fun h0 => by
  obtain ⟨b, off, rfl, hB, hc⟩ := h h0
  exact ⟨b, off, rfl, hB, fun k hk => (hb.cell (p := ⟨b, _, none⟩) hB).trans (hc k hk)⟩
theorem Ints.mono {w : World} {B B' : Nat} {A : Option Addr} {l : List Int} (h : Ints w B A l) (hB : B ≤ B') : Ints w B' A l := fun h0 => by
  obtain ⟨b, off, rfl, hb, hc⟩ := h h0
  exact ⟨b, off, rfl, by omega, hc⟩
/-- What lay below at a call's beginning lies below at the next one's. -/
theorem Pcs.next {w w' : World} {A : Option Addr} {ps : List Pc} (h : Pcs w w.heap.size A ps) (hb : Below w.heap.size w w') : Pcs w' w'.heap.size A ps := (h.below hb).mono hb.size
theorem Ints.next {w w' : World} {A : Option Addr} {l : List Int} (h : Ints w w.heap.size A l) (hb : Below w.heap.size w w') : Ints w' w'.heap.size A l := (h.below hb).mono hb.size
theorem below_next {a w w' : World} (h : Below a.heap.size a w) (hb : Below w.heap.size w w') : Below a.heap.size a w' := h.trans (hb.mono h.size)
theorem ret_int {k : IntKind} {a b : Int} (h : a = b) : Ending.returned (.int k a) = .returned (.int k b) := by rw [h]
theorem ret_bool {a b : Bool} (h : a = b) : Ending.returned (.bool a) = .returned (.bool b) := by rw [h]
theorem ret_two {k : IntKind} {a b c d : Int} (h : a = b) (g : c = d) : Ending.returned (.tuple #[.int k a, .int k c]) = .returned (.tuple #[.int k b, .int k d]) := by rw [h, g]
theorem ret_ib {k : IntKind} {a b : Int} {c d : Bool} (h : a = b) (g : c = d) : Ending.returned (.tuple #[.int k a, .bool c]) = .returned (.tuple #[.int k b, .bool d]) := by rw [h, g]
end Go.Proofs.Ytkamffjncndabaa
