/- Boxes whose rows of numbers are short enough to be copied. -/
import Derived.Test.YtlgnghehgcoccaaBoxBase
namespace Go.Proofs.Ytlgnghehgcoccaa
/-- The longest row of numbers whose copy is made. -/
def fitN : Nat := 17592186044416
mutual
/-- No row of numbers in a box is longer. -/
def fitB : Bx → Prop
  | .mk _ _ _ _ _ _ _ _ kids _ src => src.length ≤ fitN ∧ fitL kids
def fitL : List Bx → Prop
  | [] => True
  | t :: ts => fitB t ∧ fitL ts
end
theorem fitB_eq (t : Bx) : fitB t ↔ t.src.length ≤ fitN ∧ fitL t.kids := by cases t; unfold fitB; exact Iff.rfl
theorem fitL_at : ∀ {l : List Bx}, fitL l → ∀ {i : Nat}, i < l.length → fitB (kidAt l i)
  | [], _, i, hi => absurd hi (by simp)
  | t :: ts, h, 0, _ => by unfold fitL at h; exact h.1
  | t :: ts, h, i + 1, hi => by
    unfold fitL at h
    have := fitL_at h.2 (i := i) (by simpa using hi)
    simpa [kidAt] using this
theorem fitL_of : ∀ {l : List Bx}, (∀ i, i < l.length → fitB (kidAt l i)) → fitL l
  | [], _ => by unfold fitL; trivial
  | t :: ts, h => by
    unfold fitL
    refine ⟨by simpa [kidAt] using h 0 (by simp), fitL_of fun i hi => ?_⟩
    have := h (i + 1) (by simpa using hi)
    simpa [kidAt] using this
end Go.Proofs.Ytlgnghehgcoccaa
