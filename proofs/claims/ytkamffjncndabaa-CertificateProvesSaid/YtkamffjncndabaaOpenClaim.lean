/- Numbers and truth values that lie in a struct's fields. -/
import Derived.Test.YtkamffjncndabaaOpen
namespace Go.Proofs.Ytkamffjncndabaa
open Go.ChangeShapes Go.WideShapes Go.Deep Go.RowKit
section
variable {H : Type} {enc : TypeId × Value → H} {P : Program} {w : World} {base : Nat} {spare : Nat → Bool} {held : Bool}
theorem trod_nums {t ti : TypeId} {fuel : Nat} {v : Value} {x : DataW H × List MemPlace} (ht : P.underlying t = some (.slice ti)) (hi : P.underlying ti = some (.int .i64)) (hC : P.cellsOf ti = 1) (hf : DataW.trod enc P w base spare held fuel t [v] = some x) :
    ∃ (A : Option Addr) (l : List Int) (c : Nat), v = .slice A l.length c ∧ l.length ≤ lenMax ∧ Ints w w.heap.size A l := by
  rcases open_slice1 ht hC hf with ⟨hcs, _⟩ | ⟨a, len', cap', m, n, V, D, Pl, hcs, hb, hl, hm, hmm, _, hx⟩
  · simp only [List.cons.injEq, and_true] at hcs
    exact ⟨none, [], 0, hcs, Nat.zero_le _, fun h => absurd h (by simp)⟩
  · simp only [List.cons.injEq, and_true] at hcs
    have hlm : len' ≤ m := by rw [hmm]; split <;> omega
    have hk : ∀ k, k < len' → ∃ z : Int, w.cell? (a.add k) = some (.int .i64 z) := by
      intro k hk
      obtain ⟨hc, ht'⟩ := hx k (by omega)
      obtain ⟨z, e, _, _⟩ := DataW.trod_int hi ht'
      simp only [List.cons.injEq, and_true] at e
      rw [e] at hc
      exact ⟨z, hc⟩
    obtain ⟨f, hfk⟩ := choose_lt (α := Int) (p := fun k z => w.cell? (a.add k) = some (.int .i64 z)) hk
    obtain ⟨l, rfl, hl2⟩ := ints_of f len'
    refine ⟨some a, l, cap', hcs, by unfold maxLen at hm; unfold lenMax; omega, fun h0 => ?_⟩
    have h00 := hfk 0 h0
    have hsp := World.cell?_spot h00
    have hlt := block_lt h00
    obtain ⟨b, off, spot⟩ := a
    have hs : spot = none := by simpa [Addr.add] using hsp
    subst hs
    refine ⟨b, off, rfl, by simpa [Addr.add] using hlt, fun k hk => ?_⟩
    rw [hl2 k hk]
    have := hfk k hk
    by_cases h : k = 0
    · simpa [Addr.add, h] using this
    · simpa [Addr.add, h] using this
theorem open_claim {r : Reach} {b0 : Nat} {t s ti tb : TypeId} {v : Value} {d : DataW H} {p : List MemPlace} {f0 f1 f2 : Field} (ht : P.underlying t = some (.struct #[f0, f1, f2])) (g0 : f0.type = s) (g1 : f1.type = s) (g2 : f2.type = tb) (hs : P.underlying s = some (.slice ti)) (hi : P.underlying ti = some (.int .i64)) (hb : P.underlying tb = some .bool)
    (hone : oneCellFields P #[f0, f1, f2] = true) (hC : P.cellsOf t = 3) (hC1 : P.cellsOf ti = 1) (hv : Value.okWide P w r b0 t v) (h : DataW.Trod enc P w base spare held t v d p) :
    ∃ (A B : Option Addr) (l m : List Int) (c e : Nat) (z : Bool), v = .agg #[.slice A l.length c, .slice B m.length e, .bool z] ∧ l.length ≤ lenMax ∧ m.length ≤ lenMax ∧ Ints w w.heap.size A l ∧ Ints w w.heap.size B m := by
  obtain ⟨v0, v1, v2, y0, y1, y2, n, rfl, _, _, h0, h1, h2⟩ := Go.Joins.open_agg3 ht hone hC hv h
  rw [g0] at h0
  rw [g1] at h1
  rw [g2] at h2
  obtain ⟨A, l, c, rfl, hl, hA⟩ := trod_nums hs hi hC1 h0
  obtain ⟨B, m, e, rfl, hm, hB⟩ := trod_nums hs hi hC1 h1
  obtain ⟨z, hz, _⟩ := DataW.trod_bool hb h2
  simp only [List.cons.injEq, and_true] at hz
  subst hz
  exact ⟨A, B, l, m, c, e, z, rfl, hl, hm, hA, hB⟩
end
end Go.Proofs.Ytkamffjncndabaa
