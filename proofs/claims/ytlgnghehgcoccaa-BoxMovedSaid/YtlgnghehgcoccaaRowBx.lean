/- A row of boxes as a list of boxes with the places of their lists. -/
import Derived.Test.YtlgnghehgcoccaaBoxMake
namespace Go.Proofs.Ytlgnghehgcoccaa
open Go.RowKit
/-- A box, and where its kids and its numbers lie. -/
structure Q5 where
  t : Bx
  A : Option Addr
  c : Nat
  A' : Option Addr
  c' : Nat
def Q5.cells (q : Q5) : List Value := (bxA q.t q.A q.c q.A' q.c').toList
theorem Q5.len (q : Q5) : q.cells.length = 11 := rfl
theorem Q5.one (q : Q5) : ∀ v ∈ q.cells, v.oneCell' = true := bxA_one _ _ _ _ _
def rowC : List Q5 → List Value
  | [] => []
  | q :: qs => q.cells ++ rowC qs
theorem rowC_append : ∀ a b : List Q5, rowC (a ++ b) = rowC a ++ rowC b
  | [], b => rfl
  | q :: qs, b => by simp [rowC, rowC_append qs b]
theorem rowC_one (q : Q5) : rowC [q] = q.cells := by simp [rowC]
theorem rowC_len : ∀ Q : List Q5, (rowC Q).length = Q.length * 11
  | [] => rfl
  | q :: qs => by rw [rowC, List.length_append, Q5.len, rowC_len qs, List.length_cons]; omega
theorem rowC_at : ∀ (Q : List Q5) (i j : Nat) (q : Q5), Q[i]? = some q → j < 11 → (rowC Q)[i * 11 + j]? = q.cells[j]?
  | [], i, j, q, h, _ => by simp at h
  | p :: ps, 0, j, q, h, hj => by
    simp at h
    subst h
    rw [rowC, Nat.zero_mul, Nat.zero_add, List.getElem?_append_left (by rw [Q5.len]; exact hj)]
  | p :: ps, i + 1, j, q, h, hj => by
    rw [rowC, List.getElem?_append_right (by rw [Q5.len]; omega), Q5.len, show (i + 1) * 11 + j - 11 = i * 11 + j by omega]
    exact rowC_at ps i j q (by simpa using h) hj
theorem rowC_one_cell (Q : List Q5) : ∀ v ∈ rowC Q, v.oneCell' = true := by
  induction Q with
  | nil => intro v hv; cases hv
  | cons q qs ih =>
    intro v hv
    rw [rowC] at hv
    rcases List.mem_append.1 hv with h | h
    · exact q.one v h
    · exact ih v h
/-- The memory of a box lies from block lo to below hi. -/
def Lies (W : World) (lo hi : Nat) (q : Q5) : Prop := Kids W lo hi q.A q.t.kids ∧ Ints W lo hi q.A' q.t.src ∧ lens q.t
theorem Lies.mono {W : World} {lo hi lo' hi' : Nat} {q : Q5} (h : Lies W lo hi q) (hl : lo' ≤ lo) (hh : hi ≤ hi') : Lies W lo' hi' q := ⟨h.1.mono hl hh, h.2.1.mono hl hh, h.2.2⟩
theorem Kids.same {w w' : World} {lo hi : Nat} {A : Option Addr} {l : List Bx} (h : Kids w lo hi A l) (hc : ∀ b o, lo ≤ b → b < hi → w'.cell? ⟨b, o, none⟩ = w.cell? ⟨b, o, none⟩) : Kids w' lo hi A l := by
  induction h with
  | mk A l K K' C C' hA hS hN hK ih =>
    refine .mk A l K K' C C' (fun h0 => ?_) (fun i hi' => (hS i hi').same hc) hN ih
    obtain ⟨b, off, rfl, hL, hB, hcc⟩ := hA h0
    exact ⟨b, off, rfl, hL, hB, fun i hi' j hj => (hc b _ hL hB).trans (hcc i hi' j hj)⟩
theorem Lies.same {w w' : World} {lo hi : Nat} {q : Q5} (h : Lies w lo hi q) (hc : ∀ b o, lo ≤ b → b < hi → w'.cell? ⟨b, o, none⟩ = w.cell? ⟨b, o, none⟩) : Lies w' lo hi q := ⟨h.1.same hc, h.2.1.same hc, h.2.2⟩
def noQ : Q5 := ⟨default, none, 0, none, 0⟩
theorem kids_row {W : World} {lo hi g off : Nat} {Q : List Q5} (hc : ∀ k u, (rowC Q)[k]? = some u → W.cell? ⟨g, off + k, none⟩ = some u) (h1 : lo ≤ g) (h2 : g < hi) (hm : ∀ q ∈ Q, Lies W lo hi q) : Kids W lo hi (some ⟨g, off, none⟩) (Q.map Q5.t) := by
  have hat : ∀ i, i < (Q.map Q5.t).length → ∃ q, Q[i]? = some q ∧ kidAt (Q.map Q5.t) i = q.t ∧ q ∈ Q := fun i hi => by
    have hi' : i < Q.length := by simpa using hi
    refine ⟨Q[i], List.getElem?_eq_getElem hi', ?_, List.getElem_mem hi'⟩
    simp [kidAt, List.getD, hi']
  have hd : ∀ (i : Nat) (q : Q5), Q[i]? = some q → (Q[i]?).getD noQ = q := fun i q h => by rw [h]; rfl
  refine .mk _ _ (fun i => ((Q[i]?).getD noQ).A) (fun i => ((Q[i]?).getD noQ).A') (fun i => ((Q[i]?).getD noQ).c) (fun i => ((Q[i]?).getD noQ).c') (fun _ => ⟨g, off, rfl, h1, h2, fun i hi j hj => ?_⟩) (fun i hi => ?_) (fun i hi => ?_) (fun i hi => ?_)
  all_goals (obtain ⟨q, hq, ht, hmem⟩ := hat i hi; rw [ht])
  · rw [hd i q hq, Nat.add_assoc]
    have h3 := rowC_at Q i j q hq hj
    have h4 : q.cells[j]? = (bxA q.t q.A q.c q.A' q.c')[j]? := by unfold Q5.cells; rw [Array.getElem?_toList]
    have h5 : j < (bxA q.t q.A q.c q.A' q.c').size := hj
    rw [h4, Array.getElem?_eq_getElem h5] at h3
    rw [hc _ _ h3, Array.getElem?_eq_getElem h5]
  · rw [hd i q hq]; exact (hm q hmem).2.1
  · exact (hm q hmem).2.2
  · rw [hd i q hq]; exact (hm q hmem).1
/-- The row of boxes that lies at a place. -/
theorem row_kids {W : World} {lo hi : Nat} {A : Option Addr} {l : List Bx} (h : Kids W lo hi A l) : ∃ Q : List Q5, Q.map Q5.t = l ∧ (∀ q ∈ Q, Lies W lo hi q) ∧ (0 < l.length → ∃ b off, A = some ⟨b, off, none⟩ ∧ lo ≤ b ∧ b < hi ∧ ∀ i q, Q[i]? = some q → ∀ j, j < 11 → W.cell? ⟨b, off + i * 11 + j, none⟩ = q.cells[j]?) := by
  cases h with
  | mk _ _ K K' C C' hA hS hN hK =>
    have hat : ∀ i, (hi : i < l.length) → kidAt l i = l[i] := fun i hi => by simp [kidAt, List.getD, hi]
    refine ⟨(List.range l.length).map fun i => ⟨kidAt l i, K i, C i, K' i, C' i⟩, ?_, fun q hq => ?_, fun h0 => ?_⟩
    · rw [List.map_map]
      apply List.ext_getElem (by simp)
      intro i h1 h2
      simp [hat i h2]
    · obtain ⟨i, hi, rfl⟩ := List.mem_map.1 hq
      have hi := List.mem_range.1 hi
      exact ⟨hK i hi, hS i hi, hN i hi⟩
    · obtain ⟨b, off, rfl, h1, h2, h3⟩ := hA h0
      refine ⟨b, off, rfl, h1, h2, fun i q hq j hj => ?_⟩
      have hi := (List.getElem?_eq_some_iff.1 hq).1
      simp at hi
      rw [List.getElem?_map, List.getElem?_range hi] at hq
      simp at hq
      subst hq
      rw [h3 i hi j hj]
      unfold Q5.cells
      rw [Array.getElem?_toList]
end Go.Proofs.Ytlgnghehgcoccaa
