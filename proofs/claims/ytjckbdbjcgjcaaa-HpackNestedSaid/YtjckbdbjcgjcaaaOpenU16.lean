/- How an argument that is a row of uint16 is read. -/
import Derived.Test.YtjckbdbjcgjcaaaOpenArr
namespace Go.Proofs.Ytjckbdbjcgjcaaa
open Go.ChangeShapes Go.WideShapes Go.Deep Go.RowKit
/-- The cells from A on, below block hi, hold the numbers l, as uint16. -/
def U16s (w : World) (hi : Nat) (A : Option Addr) (l : List Int) : Prop :=
  0 < l.length → ∃ b off, A = some ⟨b, off, none⟩ ∧ b < hi ∧ ∀ k, k < l.length → w.cell? ⟨b, off + k, none⟩ = some (.int .u16 (lAt l k)) ∧ 0 ≤ lAt l k ∧ lAt l k ≤ 65535
section
variable {H : Type} {enc : TypeId × Value → H} {P : Program} {w : World} {base : Nat} {spare : Nat → Bool} {held : Bool}
theorem u16_in {t ti : TypeId} (ht : P.underlying t = some (.slice ti)) (hi : P.underlying ti = some (.int .u16)) (hC : P.cellsOf ti = 1) {fuel : Nat} {v : Value} {x : DataW H × List MemPlace} (hf : DataW.trod enc P w base spare held fuel t [v] = some x) :
    ∃ (A : Option Addr) (l : List Int) (c : Nat), v = .slice A l.length c ∧ l.length ≤ lenMax ∧ U16s w w.heap.size A l := by
  rcases open_slice1 ht hC hf with ⟨hcs, _⟩ | ⟨a, len', cap', m, n, V, D, Pl, hcs, hb, hl, hm, hmm, hxe, hx⟩
  · simp at hcs
    subst hcs
    exact ⟨none, [], 0, rfl, Nat.zero_le _, fun h => absurd h (by simp)⟩
  · simp at hcs
    subst hcs
    have hlm : len' ≤ m := by rw [hmm]; split <;> omega
    have hk : ∀ k, k < len' → ∃ z : Int, w.cell? (a.add k) = some (.int .u16 z) ∧ 0 ≤ z ∧ z ≤ 65535 := by
      intro k hk
      obtain ⟨hc, ht'⟩ := hx k (by omega)
      obtain ⟨z, e, _, hw⟩ := DataW.trod_int hi ht'
      simp only [List.cons.injEq, and_true] at e
      rw [e] at hc
      exact ⟨z, hc, u16_bounds hw⟩
    obtain ⟨f, hfk⟩ := choose_lt (α := Int) (p := fun k z => w.cell? (a.add k) = some (.int .u16 z) ∧ 0 ≤ z ∧ z ≤ 65535) hk
    obtain ⟨l, rfl, hl2⟩ := ints_of f len'
    refine ⟨some a, l, cap', rfl, by unfold maxLen at hm; unfold lenMax; omega, fun h0 => ?_⟩
    have h00 := (hfk 0 h0).1
    have hsp := World.cell?_spot h00
    have hlt := block_lt h00
    obtain ⟨b, off, spot⟩ := a
    have hs : spot = none := by simpa [Addr.add] using hsp
    subst hs
    refine ⟨b, off, rfl, by simpa [Addr.add] using hlt, fun k hk => ?_⟩
    rw [hl2 k hk]
    have := hfk k hk
    by_cases h : k = 0
    · simpa [Addr.add, h] using this
    · simpa [Addr.add, h] using this
/-- An argument that is a row of uint16. -/
theorem open_u16s {r : Reach} {b0 : Nat} {t ti : TypeId} {v : Value} {d : DataW H} {p : List MemPlace} (ht : P.underlying t = some (.slice ti)) (hi : P.underlying ti = some (.int .u16)) (hC : P.cellsOf ti = 1) (hv : Value.okWide P w r b0 t v) (h : DataW.Trod enc P w base spare held t v d p) :
    ∃ (A : Option Addr) (l : List Int) (c : Nat), v = .slice A l.length c ∧ l.length ≤ lenMax ∧ U16s w w.heap.size A l := by
  obtain ⟨a, n, c, rfl⟩ := okWide_slice ht hv
  obtain ⟨fuel, hf⟩ := h
  obtain ⟨A, l, c', e, h1, h2⟩ := u16_in ht hi hC hf
  exact ⟨A, l, c', e, h1, h2⟩
end
theorem U16s.below {w w' : World} {B : Nat} {A : Option Addr} {l : List Int} (h : U16s w B A l) (hb : Below B w w') : U16s w' B A l := fun h0 => by
  obtain ⟨b, off, rfl, hB, hc⟩ := h h0
  exact ⟨b, off, rfl, hB, fun k hk => ⟨(hb.cell (p := ⟨b, _, none⟩) hB).trans (hc k hk).1, (hc k hk).2⟩⟩
end Go.Proofs.Ytjckbdbjcgjcaaa
