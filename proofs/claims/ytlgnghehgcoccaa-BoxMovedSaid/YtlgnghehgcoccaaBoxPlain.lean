/- When a box is valid: plain words. -/
import Derived.Test.YtlgnghehgcoccaaBoxBase
namespace Go.Proofs.Ytlgnghehgcoccaa
def byteAt (s : ByteArray) (i : Nat) : Nat := if h : i < s.size then (s[i]'h).toNat else 0
theorem byteAt_in {s : ByteArray} {i : Nat} (h : i < s.size) : (s[i]'h).toNat = byteAt s i := by unfold byteAt; rw [dif_pos h]
def nameOk (s : ByteArray) : Prop := (1 ≤ s.size ∧ s.size ≤ 16) ∧ ∀ i, i < s.size → 32 ≤ byteAt s i ∧ byteAt s i ≤ 126
def srcOk (t : Bx) : Prop := (∀ k, k < t.src.length → 0 ≤ lAt t.src k) ∧ ((t.of_ = 0 ∧ t.src.length = 0) ∨ (t.of_ = 1 ∧ t.src.length % 2 = 0 ∧ t.src.length ≤ 48) ∨ (t.of_ = 2 ∧ t.src.length % 2 = 1 ∧ t.src.length ≤ 49))
def numL (t : Bx) : List Int := [t.w, t.h, t.d, t.x, t.y]
def rngL (n : Int) : Prop := -1073741824 ≤ n ∧ n ≤ 1073741824
def numOk (t : Bx) : Prop := ∀ k, k < 5 → rngL (lAt (numL t) k)
def kindOk (t : Bx) : Prop := (t.k = 1 ∧ nameOk t.nm ∧ 1 ≤ t.sz ∧ t.sz ≤ 1000 ∧ t.kids.length = 0) ∨ (t.k = 2 ∧ t.nm.toList = [] ∧ t.sz = 0 ∧ t.kids.length = 0) ∨ (t.k = 3 ∧ t.nm.toList = [] ∧ t.sz = 0)
/-- The fields of a box are as they have to be. -/
def ownOk (t : Bx) : Prop := numOk t ∧ kindOk t ∧ srcOk t
mutual
/-- All boxes are as they have to be. -/
def properB : Bx → Prop
  | .mk k nm sz w h d x y kids of_ src => ownOk (.mk k nm sz w h d x y kids of_ src) ∧ properL kids
def properL : List Bx → Prop
  | [] => True
  | t :: ts => properB t ∧ properL ts
end
theorem properB_eq (t : Bx) : properB t ↔ ownOk t ∧ properL t.kids := by
  cases t
  unfold properB
  exact Iff.rfl
theorem properL_cons (t : Bx) (ts : List Bx) : properL (t :: ts) ↔ properB t ∧ properL ts := by rw [properL]
theorem properL_nil : properL [] := by unfold properL; trivial
theorem properL_iff : ∀ l : List Bx, properL l ↔ ∀ i, i < l.length → properB (kidAt l i)
  | [] => ⟨fun _ i h => absurd h (by simp), fun _ => properL_nil⟩
  | t :: ts => by
    rw [properL_cons, properL_iff ts]
    constructor
    · rintro ⟨h1, h2⟩ i hi
      cases i with
      | zero => exact h1
      | succ i => exact h2 i (by simpa using hi)
    · intro h
      exact ⟨h 0 (by simp), fun i hi => h (i + 1) (by simpa using hi)⟩
/-- A box is valid. -/
def validB (t : Bx) : Prop := properB t ∧ cntB t ≤ 20000 ∧ nestB t ≤ 100
theorem bool_of (p : Prop) : ∃ r : Bool, r = true ↔ p := by
  by_cases h : p
  · exact ⟨true, by simp [h]⟩
  · exact ⟨false, by simp [h]⟩
theorem is_true {r : Bool} {p : Prop} (h : r = true ↔ p) (hp : p) : true = r := (h.2 hp).symm
theorem is_false {r : Bool} {p : Prop} (h : r = true ↔ p) (hp : ¬ p) : false = r := by
  cases r with
  | false => rfl
  | true => exact absurd (h.1 rfl) hp
end Go.Proofs.Ytlgnghehgcoccaa
