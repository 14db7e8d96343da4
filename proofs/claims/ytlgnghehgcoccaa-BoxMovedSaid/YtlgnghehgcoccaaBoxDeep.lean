/- Deep copies: what a loop over pending nodes leaves. -/
import Derived.Test.YtlgnghehgcoccaaBoxStack
import Derived.Test.YtlgnghehgcoccaaBoxMake
import Derived.Test.YtlgnghehgcoccaaCopyEl
import Derived.RangeFuncBox
import Derived.Deep.Slices
namespace Go.Proofs.Ytlgnghehgcoccaa
open Go.RowKit Go.Deep
/-- A node: its block, its place there, its box. -/
abbrev Node := Nat × Nat × Bx
/-- Cells of a block hold these. -/
def In (W : World) (b o : Nat) (arr : Array Value) : Prop := ∃ cs ty, W.heap[b]? = some (.cells cs ty (0, 0)) ∧ o + arr.size ≤ cs.size ∧ ∀ j, j < arr.size → cs[o + j]? = arr[j]?
theorem In.cell {W : World} {b o : Nat} {arr : Array Value} (h : In W b o arr) {j : Nat} (hj : j < arr.size) : W.cell? ⟨b, o + j, none⟩ = arr[j]? := by
  obtain ⟨cs, ty, hb, _, hc⟩ := h
  rw [cell_of_row _ _ _ _ _ _ hb, hc j hj]
theorem In.lt {W : World} {b o : Nat} {arr : Array Value} (h : In W b o arr) : b < W.heap.size := by
  obtain ⟨cs, ty, hb, _⟩ := h
  exact (Array.getElem?_eq_some_iff.1 hb).1
theorem In.free {W : World} {b o : Nat} {arr : Array Value} (h : In W b o arr) (k : Nat) : W.frozen? ⟨b, k, none⟩ = false := by
  obtain ⟨cs, ty, hb, _⟩ := h
  exact blk_free hb k
theorem In.keep {W W' : World} {b o : Nat} {arr : Array Value} (h : In W b o arr) (hb : W'.heap[b]? = W.heap[b]?) : In W' b o arr := by
  obtain ⟨cs, ty, h1, h2, h3⟩ := h
  exact ⟨cs, ty, hb.trans h1, h2, h3⟩
/-- A store beside. -/
theorem In.aside {W : World} {b o : Nat} {arr : Array Value} (h : In W b o arr) {p : Nat × Nat} {v : Value} (hp : p.1 ≠ b ∨ p.2 < o ∨ o + arr.size ≤ p.2) : In (W.setCell ⟨p.1, p.2, none⟩ v) b o arr := by
  obtain ⟨cs, ty, h1, h2, h3⟩ := h
  by_cases e : p.1 = b
  · subst e
    refine ⟨cs.setIfInBounds p.2 v, ty, blk_set h1 p.2 v, by simpa using h2, fun j hj => ?_⟩
    rw [Array.getElem?_setIfInBounds_ne (by rcases hp with h | h | h <;> omega)]
    exact h3 j hj
  · exact ⟨cs, ty, blk_far h1 (p := ⟨p.1, p.2, none⟩) (fun e' => e e'.symm) v, h2, h3⟩
/-- A store into one of them. -/
theorem In.store {W : World} {b o : Nat} {arr : Array Value} (h : In W b o arr) {k : Nat} (hk : k < arr.size) (v : Value) : In (W.setCell ⟨b, o + k, none⟩ v) b o (arr.setIfInBounds k v) := by
  obtain ⟨cs, ty, h1, h2, h3⟩ := h
  refine ⟨cs.setIfInBounds (o + k) v, ty, blk_set h1 _ v, by simpa using h2, fun j hj => ?_⟩
  have hj' : j < arr.size := by simpa using hj
  by_cases e : j = k
  · subst e
    rw [Array.getElem?_setIfInBounds_self_of_lt (by omega), Array.getElem?_setIfInBounds_self_of_lt hj']
  · rw [Array.getElem?_setIfInBounds_ne (by omega), Array.getElem?_setIfInBounds_ne (by omega)]
    exact h3 j hj'
def Pend (w0 : World) (base : Nat) (W : World) (e : Node) : Prop :=
  ∃ A c A' c', In W e.1 e.2.1 (bxA e.2.2 A c A' c') ∧ Kids w0 0 base A e.2.2.kids ∧ Ints w0 0 base A' e.2.2.src ∧ lens e.2.2 ∧ base ≤ e.1
def Deep (lo : Nat) (W : World) (e : Node) : Prop := ∃ A c A' c', BoxAt W e.1 e.2.1 e.2.2 A c A' c' ∧ Kids W lo W.heap.size A e.2.2.kids ∧ Ints W lo W.heap.size A' e.2.2.src
def Apart (e f : Node) : Prop := e.1 ≠ f.1 ∨ e.2.1 + 11 ≤ f.2.1 ∨ f.2.1 + 11 ≤ e.2.1
def Hit (E : List Node) (k off : Nat) : Prop := ∃ e ∈ E, e.1 = k ∧ (off = e.2.1 + 8 ∨ off = e.2.1 + 10)
structure Fin (base : Nat) (E : List Node) (g : Nat) (W wf : World) : Prop where
  size : W.heap.size ≤ wf.heap.size
  deep : ∀ e ∈ E, Deep base wf e
  cell : ∀ k off, k < W.heap.size → k ≠ g → ¬ Hit E k off → wf.cell? ⟨k, off, none⟩ = W.cell? ⟨k, off, none⟩
theorem Fin.nil (base g : Nat) (W : World) : Fin base [] g W W := ⟨Nat.le_refl _, fun e h => absurd h (by simp), fun _ _ _ _ _ => rfl⟩
def kidN (gk : Nat) (l : List Bx) : List Node := (List.range l.length).map fun i => (gk, i * 11, kidAt l i)
theorem kidN_mem {gk : Nat} {l : List Bx} {e : Node} (h : e ∈ kidN gk l) : ∃ i, i < l.length ∧ e = (gk, i * 11, kidAt l i) := by
  unfold kidN at h
  obtain ⟨i, hi, rfl⟩ := List.mem_map.1 h
  exact ⟨i, List.mem_range.1 hi, rfl⟩
theorem mem_kidN {gk : Nat} {l : List Bx} {i : Nat} (h : i < l.length) : (gk, i * 11, kidAt l i) ∈ kidN gk l := List.mem_map.2 ⟨i, List.mem_range.2 h, rfl⟩
/-- One step: node p's lists have been copied, its kids are pending now. -/
theorem Fin.step {base g g' : Nat} {E : List Node} {p : Node} {W W' wf : World} {gk c c' : Nat} {B : Option Addr} {Ak : Option Addr} (hsz : W.heap.size ≤ W'.heap.size) (hpl : p.1 < W.heap.size) (hpg : p.1 ≠ g) (hpg' : p.1 ≠ g') (hbase : base ≤ W.heap.size)
    (hat : In W' p.1 p.2.1 (bxA p.2.2 Ak c B c')) (hAk : 0 < p.2.2.kids.length → Ak = some ⟨gk, 0, none⟩) (hfr : ∀ k off, k < W.heap.size → k ≠ g → ¬ Hit [p] k off → W'.cell? ⟨k, off, none⟩ = W.cell? ⟨k, off, none⟩) (hg : g' = g ∨ W.heap.size ≤ g')
    (hgk : 0 < p.2.2.kids.length → W.heap.size ≤ gk ∧ gk < W'.heap.size ∧ gk ≠ g') (hB : 0 < p.2.2.src.length → ∃ b off, B = some ⟨b, off, none⟩ ∧ W.heap.size ≤ b ∧ b < W'.heap.size ∧ b ≠ g' ∧ (0 < p.2.2.kids.length → b ≠ gk) ∧ ∀ k, k < p.2.2.src.length → W'.cell? ⟨b, off + k, none⟩ = some (.int .i64 (lAt p.2.2.src k)))
    (hap : ∀ e ∈ E, Apart e p) (hE : ∀ e ∈ E, e.1 < W.heap.size) (hlen : ∀ i, i < p.2.2.kids.length → lens (kidAt p.2.2.kids i))
    (h : Fin base (E ++ kidN gk p.2.2.kids) g' W' wf) : Fin base (E ++ [p]) g W wf := by
  obtain ⟨hs, hd, hc⟩ := h
  have hnk : ∀ k off, k < W.heap.size → ¬ Hit E k off → ¬ Hit (E ++ kidN gk p.2.2.kids) k off := fun k off hk hn hh => by
    obtain ⟨e, he, h1, h2⟩ := hh
    rcases List.mem_append.1 he with h3 | h3
    · exact hn ⟨e, h3, h1, h2⟩
    · obtain ⟨i, hi, rfl⟩ := kidN_mem h3
      have := (hgk (by omega)).1
      simp at h1
      omega
  refine ⟨by omega, fun e he => ?_, fun k off hk hkg hn => ?_⟩
  · rcases List.mem_append.1 he with h1 | h1
    · exact hd e (List.mem_append_left _ h1)
    · obtain rfl : e = p := by simpa using h1
      obtain ⟨f, hf⟩ := choose_lt (p := fun i (q : Option Addr × Nat × Option Addr × Nat) => BoxAt wf gk (i * 11) (kidAt e.2.2.kids i) q.1 q.2.1 q.2.2.1 q.2.2.2 ∧ Kids wf base wf.heap.size q.1 (kidAt e.2.2.kids i).kids ∧ Ints wf base wf.heap.size q.2.2.1 (kidAt e.2.2.kids i).src) (n := e.2.2.kids.length) (fun i hi => by
        obtain ⟨A, c, A', c', h1, h2, h3⟩ := hd _ (List.mem_append_right _ (mem_kidN (gk := gk) hi))
        exact ⟨(A, c, A', c'), h1, h2, h3⟩)
      refine ⟨Ak, c, B, c', fun j hj => ?_, ?_, fun h0 => ?_⟩
      · rw [hc _ _ (by omega) hpg' (hnk _ _ hpl (fun hh => ?_))]
        · exact hat.cell hj
        · obtain ⟨e', he', h1, h2⟩ := hh
          have := hap e' he'
          unfold Apart at this
          omega
      · refine .mk _ _ (fun i => (f i).1) (fun i => (f i).2.2.1) (fun i => (f i).2.1) (fun i => (f i).2.2.2) (fun h0 => ?_) (fun i hi => (hf i hi).2.2) hlen (fun i hi => (hf i hi).2.1)
        obtain ⟨h1, h2, _⟩ := hgk h0
        refine ⟨gk, 0, hAk h0, by omega, by omega, fun i hi j hj => ?_⟩
        rw [Nat.zero_add]
        exact (hf i hi).1 j hj
      · obtain ⟨b, off, rfl, h1, h2, h3, h4, h5⟩ := hB h0
        refine ⟨b, off, rfl, by omega, by omega, fun k hk => ?_⟩
        rw [hc _ _ h2 h3 (fun hh => ?_)]
        · exact h5 k hk
        · obtain ⟨e', he', h6, h7⟩ := hh
          rcases List.mem_append.1 he' with h8 | h8
          · have := hE e' h8
            omega
          · obtain ⟨i, hi, rfl⟩ := kidN_mem h8
            exact h4 (by omega) h6.symm
  · have hk1 : k < W'.heap.size := Nat.lt_of_lt_of_le hk hsz
    have hk2 : k ≠ g' := by rcases hg with h | h <;> omega
    rw [hc k off hk1 hk2 (hnk k off hk (fun hh => hn (by
      obtain ⟨e, he, h1⟩ := hh
      exact ⟨e, List.mem_append_left _ he, h1⟩)))]
    exact hfr k off hk hkg (fun hh => hn (by
      obtain ⟨e, he, h1⟩ := hh
      exact ⟨e, List.mem_append_right _ he, h1⟩))
end Go.Proofs.Ytlgnghehgcoccaa
