/- A row of boxes that is copied. -/
import Derived.Test.YtonahgdchngabaaRowBx
namespace Go.Proofs.Ytonahgdchngabaa
open Go.RowKit
theorem rowC_of : ∀ (Q : List Q5) (k : Nat) (u : Value), (rowC Q)[k]? = some u → ∃ q, Q[k / 11]? = some q ∧ q.cells[k % 11]? = some u := fun Q k u h => by
  have hk := (List.getElem?_eq_some_iff.1 h).1
  rw [rowC_len] at hk
  have h1 : k / 11 < Q.length := by omega
  refine ⟨Q[k / 11], List.getElem?_eq_getElem h1, ?_⟩
  rw [← rowC_at Q (k / 11) (k % 11) _ (List.getElem?_eq_getElem h1) (by omega), show k / 11 * 11 + k % 11 = k by omega]
  exact h
/-- The cells of a row that came in, to be copied. -/
theorem row_src {W : World} {hi : Nat} {A : Option Addr} {l : List Bx} (h : Kids W 0 hi A l) : ∃ Q : List Q5, Q.map Q5.t = l ∧ (∀ q ∈ Q, Lies W 0 hi q) ∧ (rowC Q).length = l.length * 11 ∧ ∀ W', Below hi W W' → 0 < l.length → ∃ b off, A = some ⟨b, off, none⟩ ∧ ∀ j u, (rowC Q)[j]? = some u → W'.cell? ⟨b, off + j, none⟩ = some u := by
  obtain ⟨Q, h1, h2, h3⟩ := row_kids h
  refine ⟨Q, h1, h2, by rw [rowC_len, ← h1, List.length_map], fun W' hb h0 => ?_⟩
  obtain ⟨b, off, rfl, _, hb2, h4⟩ := h3 h0
  refine ⟨b, off, rfl, fun j u hu => ?_⟩
  obtain ⟨q, hq, hu2⟩ := rowC_of Q j u hu
  refine (hb.cell (p := ⟨b, off + j, none⟩) hb2).trans ?_
  rw [show off + j = off + j / 11 * 11 + j % 11 by omega, h4 _ q hq _ (by omega)]
  exact hu2
theorem Copied.keep {g n : Nat} {e : TypeId} {news : List Value} {A : Option Addr} {W W' : World} (h : Copied g e news n A W) (hk : ∀ b, g ≤ b → W'.heap[b]? = W.heap[b]?) : Copied g e news n A W' := fun h0 => by
  obtain ⟨b, cur, h1, h2, h3, h4⟩ := h h0
  exact ⟨b, cur, h1, h2, (hk b h2).trans h3, h4⟩
theorem Copied.lowkeep {g n : Nat} {e : TypeId} {news : List Value} {A : Option Addr} {W W' : World} (h : Copied g e news n A W) (hb : Below W.heap.size W W') : Copied g e news n A W' := fun h0 => by
  obtain ⟨b, cur, h1, h2, h3, h4⟩ := h h0
  exact ⟨b, cur, h1, h2, (hb.block b (Array.getElem?_eq_some_iff.1 h3).1).trans h3, h4⟩
/-- The row that has been copied. -/
theorem row_copied {W W' : World} {hi g : Nat} {A' : Option Addr} {l : List Bx} {Q : List Q5} {e : TypeId} (h1 : Q.map Q5.t = l) (h2 : ∀ q ∈ Q, Lies W 0 hi q) (hb : Below hi W W') (hhi : hi ≤ W'.heap.size) (hc : Copied g e (rowC Q) l.length A' W') : Kids W' 0 W'.heap.size A' l := by
  by_cases h0 : 0 < l.length
  · obtain ⟨b, cur, rfl, _, hh, hcc⟩ := hc h0
    rw [← h1]
    exact kids_row (fun k u hu => by rw [Nat.zero_add]; exact blk_cell hh k _ (hcc k u hu)) (Nat.zero_le _) (Array.getElem?_eq_some_iff.1 hh).1 fun q hq => ((h2 q hq).same fun b o _ hb2 => hb.cell (p := ⟨b, o, none⟩) hb2).mono (Nat.le_refl _) hhi
  · rw [List.eq_nil_of_length_eq_zero (by omega : l.length = 0)]
    exact Kids.nil _ _ _ _
end Go.Proofs.Ytonahgdchngabaa
