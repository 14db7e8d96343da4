/- Deep copies: the state of the loop, and one round's memory. -/
import Derived.Test.YtlgnghehgcoccaaBoxDeep
import Derived.Test.YtlgnghehgcoccaaRowBx
import Derived.Test.YtlgnghehgcoccaaBoxFit
namespace Go.Proofs.Ytlgnghehgcoccaa
open Go.RowKit Go.Deep
/-- What a round's copying leaves. -/
structure It (w wr W4 : World) (p : Node) (gk : Nat) (Ak : Option Addr) (ck : Nat) (A3 : Option Addr) (c3 : Nat) : Prop where
  size : wr.heap.size ≤ W4.heap.size
  own : In W4 p.1 p.2.1 (bxA p.2.2 Ak ck A3 c3)
  aside : ∀ e : Node, Apart e p → ∀ arr : Array Value, arr.size = 11 → In wr e.1 e.2.1 arr → In W4 e.1 e.2.1 arr
  cell : ∀ k off, k < wr.heap.size → ¬ Hit [p] k off → W4.cell? ⟨k, off, none⟩ = wr.cell? ⟨k, off, none⟩
  block : ∀ k, k < wr.heap.size → k ≠ p.1 → W4.heap[k]? = wr.heap[k]?
  kids : 0 < p.2.2.kids.length → Ak = some ⟨gk, 0, none⟩ ∧ wr.heap.size ≤ gk ∧ gk < W4.heap.size ∧ ∀ i, i < p.2.2.kids.length → Pend w w.heap.size W4 (gk, i * 11, kidAt p.2.2.kids i)
  src : 0 < p.2.2.src.length → ∃ b off, A3 = some ⟨b, off, none⟩ ∧ wr.heap.size ≤ b ∧ b < W4.heap.size ∧ (0 < p.2.2.kids.length → b ≠ gk) ∧ ∀ k, k < p.2.2.src.length → W4.cell? ⟨b, off + k, none⟩ = some (.int .i64 (lAt p.2.2.src k))
  bel : Below w.heap.size w W4
/-- The state of the loop. -/
structure DS (w Wi : World) (t : Bx) (E : List Node) (g : Nat) (W : World) : Prop where
  pend : ∀ e ∈ E, Pend w w.heap.size W e
  fit : ∀ e ∈ E, fitB e.2.2
  ng : ∀ e ∈ E, e.1 ≠ g ∧ e.1 ≠ w.heap.size + 1
  ap : E.Pairwise Apart
  res : W.heap[w.heap.size + 1]? = some (.cells zeroBox 25 (0, 0))
  bel : Below w.heap.size w W
  gle : w.heap.size + 2 ≤ g
  glt : g < W.heap.size
  fin : ∀ wf, Fin (w.heap.size + 2) E g W wf → Fin (w.heap.size + 2) [(w.heap.size, 0, t)] (w.heap.size + 2) Wi wf
theorem Gr.cell {g : Nat} {W W' : World} (h : Gr g W W') {k : Nat} (hk : k < W.heap.size) (hn : k ≠ g) (off : Nat) : W'.cell? ⟨k, off, none⟩ = W.cell? ⟨k, off, none⟩ := cell_of_heap (h.block k hk hn)
theorem DS.next {w Wi wr W4 W' : World} {t : Bx} {E : List Node} {p : Node} {g g' gk : Nat} {Ak : Option Addr} {ck : Nat} {A3 : Option Addr} {c3 : Nat} (h : DS w Wi t (E ++ [p]) g wr) (it : It w wr W4 p gk Ak ck A3 c3) (hgr : Gr g W4 W') (hg : g' = g ∨ W4.heap.size ≤ g') (hgl : g' < W'.heap.size) :
    DS w Wi t (E ++ kidN gk p.2.2.kids) g' W' := by
  have hp : p ∈ E ++ [p] := List.mem_append_right _ (by simp)
  have hpl : p.1 < wr.heap.size := by obtain ⟨A, c, A', c', h1, _⟩ := h.pend p hp; exact h1.lt
  have hbase : w.heap.size ≤ p.1 := by obtain ⟨A, c, A', c', _, _, _, _, h1⟩ := h.pend p hp; exact h1
  have hlens : ∀ i, i < p.2.2.kids.length → lens (kidAt p.2.2.kids i) := fun i hi => by
    obtain ⟨A, c, A', c', _, h1, _⟩ := h.pend p hp
    obtain ⟨_, _, _, _, _, _, _, _, _, _, _, _, hl⟩ := h1.at hi
    exact hl
  have hwr : w.heap.size ≤ wr.heap.size := h.bel.size
  have hsz := it.size
  have hsz' := hgr.size
  have hglt := h.glt
  have hgle := h.gle
  have hEl : ∀ e ∈ E, e.1 < wr.heap.size := fun e he => by obtain ⟨A, c, A', c', h1, _⟩ := h.pend e (List.mem_append_left _ he); exact h1.lt
  have hapE : ∀ e ∈ E, Apart e p := fun e he => (List.pairwise_append.1 h.ap).2.2 e he p (by simp)
  have hgg : g' = g ∨ wr.heap.size ≤ g' := by omega
  have hkid : ∀ i, i < p.2.2.kids.length → wr.heap.size ≤ gk ∧ gk < W4.heap.size ∧ gk ≠ g ∧ gk ≠ g' := fun i hi => by
    obtain ⟨_, h1, h2, _⟩ := it.kids (by omega)
    omega
  refine ⟨fun e he => ?_, fun e he => ?_, fun e he => ?_, ?_, ?_, ?_, ?_, hgl, fun wf hwf => ?_⟩
  · rcases List.mem_append.1 he with h1 | h1
    · obtain ⟨A, c, A', c', h2, h3⟩ := h.pend e (List.mem_append_left _ h1)
      have h4 := it.aside e (hapE e h1) _ rfl h2
      exact ⟨A, c, A', c', h4.keep (hgr.block _ h4.lt (h.ng e (List.mem_append_left _ h1)).1), h3⟩
    · obtain ⟨i, hi, rfl⟩ := kidN_mem h1
      obtain ⟨_, _, _, h5⟩ := it.kids (by omega)
      obtain ⟨A, c, A', c', h2, h3⟩ := h5 i hi
      exact ⟨A, c, A', c', h2.keep (hgr.block _ h2.lt (hkid i hi).2.2.1), h3⟩
  · rcases List.mem_append.1 he with h1 | h1
    · exact h.fit e (List.mem_append_left _ h1)
    · obtain ⟨i, hi, rfl⟩ := kidN_mem h1
      exact fitL_at ((fitB_eq _).1 (h.fit p hp)).2 hi
  · rcases List.mem_append.1 he with h1 | h1
    · have := h.ng e (List.mem_append_left _ h1)
      have := hEl e h1
      exact ⟨by omega, by omega⟩
    · obtain ⟨i, hi, rfl⟩ := kidN_mem h1
      have := hkid i hi
      exact ⟨this.2.2.2, by show gk ≠ _; omega⟩
  · refine List.pairwise_append.2 ⟨(List.pairwise_append.1 h.ap).1, ?_, fun e he f hf => ?_⟩
    · unfold kidN
      rw [List.pairwise_map]
      refine List.Pairwise.imp ?_ List.pairwise_lt_range
      intro i j hij
      exact .inr (.inl (by show i * 11 + 11 ≤ j * 11; omega))
    · obtain ⟨i, hi, rfl⟩ := kidN_mem hf
      have := hkid i hi
      have := hEl e he
      exact .inl (by show e.1 ≠ gk; omega)
  · have hpn := (h.ng p hp).2
    have hle : w.heap.size + 1 < wr.heap.size := by omega
    rw [hgr.block _ (by omega) (by omega), it.block _ hle (fun e => hpn e.symm)]
    exact h.res
  · exact hgr.below it.bel (by omega) (by omega)
  · omega
  · refine h.fin wf (Fin.step (gk := gk) (W' := W') (g' := g') (c := ck) (c' := c3) (B := A3) (Ak := Ak) (by omega) hpl (h.ng p hp).1 (by have := (h.ng p hp).1; omega) (by omega) (it.own.keep (hgr.block _ it.own.lt (h.ng p hp).1)) (fun h0 => (it.kids h0).1) (fun k off hk hkg hn => ?_) hgg (fun h0 => ?_) (fun h0 => ?_) hapE hEl hlens hwf)
    · rw [hgr.cell (by omega) hkg, it.cell k off hk hn]
    · have := hkid 0 h0
      omega
    · obtain ⟨b, off, e, h1, h2, h3, h4⟩ := it.src h0
      refine ⟨b, off, e, h1, by omega, by omega, h3, fun k hk => ?_⟩
      rw [hgr.cell h2 (by omega)]
      exact h4 k hk
end Go.Proofs.Ytlgnghehgcoccaa
