/- Deep copies: one round's copying. -/
import Derived.Test.YtlgnghehgcoccaaBoxDeep2
namespace Go.Proofs.Ytlgnghehgcoccaa
open Go.RowKit Go.Deep
def kidCell (l : List Bx) (K : Nat → Option Addr) (C : Nat → Nat) (K' : Nat → Option Addr) (C' : Nat → Nat) (q : Nat) : Value := ((bxA (kidAt l (q / 11)) (K (q / 11)) (C (q / 11)) (K' (q / 11)) (C' (q / 11)))[q % 11]?).getD (.int .i64 0)
def kidCells (l : List Bx) (K : Nat → Option Addr) (C : Nat → Nat) (K' : Nat → Option Addr) (C' : Nat → Nat) : List Value := (List.range (l.length * 11)).map (kidCell l K C K' C')
theorem kidCells_len (l : List Bx) (K : Nat → Option Addr) (C : Nat → Nat) (K' : Nat → Option Addr) (C' : Nat → Nat) : (kidCells l K C K' C').length = l.length * 11 := by simp [kidCells]
theorem bxA_some (t : Bx) (A : Option Addr) (c : Nat) (A' : Option Addr) (c' : Nat) {j : Nat} (hj : j < 11) : (bxA t A c A' c')[j]? = some (((bxA t A c A' c')[j]?).getD (.int .i64 0)) := by
  have : j < (bxA t A c A' c').size := hj
  rw [Array.getElem?_eq_getElem this]
  rfl
theorem kidCells_at {l : List Bx} (K : Nat → Option Addr) (C : Nat → Nat) (K' : Nat → Option Addr) (C' : Nat → Nat) {i j : Nat} (hi : i < l.length) (hj : j < 11) : (kidCells l K C K' C')[i * 11 + j]? = (bxA (kidAt l i) (K i) (C i) (K' i) (C' i))[j]? := by
  have h1 : i * 11 + j < l.length * 11 := by omega
  have h2 : (i * 11 + j) / 11 = i := by omega
  have h3 : (i * 11 + j) % 11 = j := by omega
  unfold kidCells
  rw [List.getElem?_map, List.getElem?_range h1]
  show some (kidCell l K C K' C' (i * 11 + j)) = _
  unfold kidCell
  rw [h2, h3]
  exact (bxA_some _ _ _ _ _ hj).symm
theorem kidCells_of {l : List Bx} {K : Nat → Option Addr} {C : Nat → Nat} {K' : Nat → Option Addr} {C' : Nat → Nat} {q : Nat} {v : Value} (h : (kidCells l K C K' C')[q]? = some v) : q / 11 < l.length ∧ (bxA (kidAt l (q / 11)) (K (q / 11)) (C (q / 11)) (K' (q / 11)) (C' (q / 11)))[q % 11]? = some v := by
  have hq := (List.getElem?_eq_some_iff.1 h).1
  rw [kidCells_len] at hq
  have h1 : q / 11 < l.length := by omega
  have h2 := kidCells_at (l := l) K C K' C' (i := q / 11) (j := q % 11) h1 (by omega)
  rw [show q / 11 * 11 + q % 11 = q by omega, h] at h2
  exact ⟨h1, h2.symm⟩
theorem kidCells_one {l : List Bx} {K : Nat → Option Addr} {C : Nat → Nat} {K' : Nat → Option Addr} {C' : Nat → Nat} : ∀ v ∈ kidCells l K C K' C', v.oneCell' = true := fun v hv => by
  obtain ⟨q, hq⟩ := List.mem_iff_getElem?.1 hv
  obtain ⟨_, h⟩ := kidCells_of hq
  rw [← Array.getElem?_toList] at h
  exact bxA_one _ _ _ _ _ v (List.mem_iff_getElem?.2 ⟨_, h⟩)
section
variable {w wr w1 : World} {p : Node} {A1 : Option Addr} {c1 : Nat} {A2 : Option Addr} {c2 : Nat} {A3 : Option Addr} {c3 : Nat}
theorem setCell_cell {W : World} {b k : Nat} (v : Value) {k' off : Nat} (h : ¬ (k' = b ∧ off = k)) : (W.setCell ⟨b, k, none⟩ v).cell? ⟨k', off, none⟩ = W.cell? ⟨k', off, none⟩ := by
  by_cases e : k' = b
  · subst e
    have h2 : off ≠ k := fun e => h ⟨rfl, e⟩
    simp only [World.setCell, World.cell?, Array.getElem?_modify]
    cases hb : W.heap[k']? with
    | none => simp
    | some o => cases o <;> simp [Array.getElem?_setIfInBounds_ne (Ne.symm h2)]
  · exact cell_of_heap (Below.heap_setCell W ⟨b, k, none⟩ v k' e)
/-- The two stores. -/
abbrev W2of (w1 : World) (p : Node) (A3 : Option Addr) (c3 : Nat) : World := (w1.setCell ⟨p.1, p.2.1 + 10, none⟩ (.slice A3 p.2.2.src.length c3)).setCell ⟨p.1, p.2.1 + 8, none⟩ (.slice none 0 0)
theorem w2_in (hp : In w1 p.1 p.2.1 (bxA p.2.2 A1 c1 A2 c2)) : In (W2of w1 p A3 c3) p.1 p.2.1 #[.int .i64 p.2.2.k, .string p.2.2.nm, .int .i64 p.2.2.sz, .int .i64 p.2.2.w, .int .i64 p.2.2.h, .int .i64 p.2.2.d, .int .i64 p.2.2.x, .int .i64 p.2.2.y, .slice none 0 0, .int .i64 p.2.2.of_, .slice A3 p.2.2.src.length c3] :=
  (hp.store (k := 10) (show 10 < 11 by omega) (.slice A3 p.2.2.src.length c3)).store (k := 8) (by rw [Array.size_setIfInBounds]; exact (show 8 < 11 by omega)) (.slice none 0 0)
theorem not_hit {p : Node} {k off : Nat} (h : ¬ Hit [p] k off) : ¬ (k = p.1 ∧ off = p.2.1 + 10) ∧ ¬ (k = p.1 ∧ off = p.2.1 + 8) :=
  ⟨fun e => h ⟨p, by simp, e.1.symm, .inr e.2⟩, fun e => h ⟨p, by simp, e.1.symm, .inl e.2⟩⟩
theorem apart_aside {e p : Node} (h : Apart e p) {W : World} {arr : Array Value} (ha : arr.size = 11) {j : Nat} (hj : j < 11) (v : Value) (hi : In W e.1 e.2.1 arr) : In (W.setCell ⟨p.1, p.2.1 + j, none⟩ v) e.1 e.2.1 arr :=
  hi.aside (p := (p.1, p.2.1 + j)) (by unfold Apart at h; show p.1 ≠ e.1 ∨ p.2.1 + j < e.2.1 ∨ e.2.1 + arr.size ≤ p.2.1 + j; omega)
theorem it0 (hp : In wr p.1 p.2.1 (bxA p.2.2 A1 c1 A2 c2)) (hn : p.2.2.kids.length = 0) (hb1 : Below wr.heap.size wr w1) (hI : Ints w1 wr.heap.size w1.heap.size A3 p.2.2.src) (hbel : Below w.heap.size w wr) (hbase : w.heap.size ≤ p.1) : It w wr (W2of w1 p A3 c3) p 0 none 0 A3 c3 := by
  have hpl := hp.lt
  have hp1 : In w1 p.1 p.2.1 (bxA p.2.2 A1 c1 A2 c2) := hp.keep (hb1.block _ hpl)
  refine ⟨by simpa [W2of] using hb1.size, ?_, fun e he arr ha h => ?_, fun k off hk hn => ?_, fun k hk hn => ?_, fun h0 => absurd h0 (by omega), fun h0 => ?_, ?_⟩
  · have := w2_in (A3 := A3) (c3 := c3) hp1
    rw [show bxA p.2.2 none 0 A3 c3 = _ from by unfold bxA; rw [hn]]
    exact this
  · exact apart_aside he ha (by omega) _ (apart_aside he ha (by omega) _ (h.keep (hb1.block _ h.lt)))
  · obtain ⟨h1, h2⟩ := not_hit hn
    rw [setCell_cell _ h2, setCell_cell _ h1]
    exact hb1.cell (p := ⟨k, off, none⟩) hk
  · rw [Below.heap_setCell _ _ _ _ hn, Below.heap_setCell _ _ _ _ hn]
    exact hb1.block k hk
  · obtain ⟨b, off, e, h1, h2, h3⟩ := hI h0
    refine ⟨b, off, e, h1, by simpa [W2of] using h2, fun h => absurd h (by omega), fun k hk => ?_⟩
    rw [setCell_cell _ (fun e => by omega), setCell_cell _ (fun e => by omega)]
    exact h3 k hk
  · have hh : Below w.heap.size w w1 := hbel.trans (hb1.mono hbel.size)
    exact (hh.setCell (p := ⟨p.1, p.2.1 + 10, none⟩) hbase _).setCell (p := ⟨p.1, p.2.1 + 8, none⟩) hbase _
theorem w3_facts (hp : In wr p.1 p.2.1 (bxA p.2.2 A1 c1 A2 c2)) (hb1 : Below wr.heap.size wr w1) (hbel : Below w.heap.size w wr) (hbase : w.heap.size ≤ p.1) (zs : Array Value) (ty : TypeId) (v : Value) :
    ((W2of w1 p A3 c3).alloc (.cells zs ty)).cell? ⟨p.1, p.2.1 + 8, none⟩ = some (.slice none 0 0) ∧ ((W2of w1 p A3 c3).alloc (.cells zs ty)).frozen? ⟨p.1, p.2.1 + 8, none⟩ = false ∧
    (((W2of w1 p A3 c3).alloc (.cells zs ty)).setCell ⟨p.1, p.2.1 + 8, none⟩ v).cell? ⟨p.1, p.2.1 + 8, none⟩ = some v ∧
    (((W2of w1 p A3 c3).alloc (.cells zs ty)).setCell ⟨p.1, p.2.1 + 8, none⟩ v).heap[w1.heap.size]? = some (.cells zs ty (0, 0)) ∧ Below w.heap.size w (((W2of w1 p A3 c3).alloc (.cells zs ty)).setCell ⟨p.1, p.2.1 + 8, none⟩ v) := by
  have hpl := hp.lt
  have hs1 := hb1.size
  have hs2 : (W2of w1 p A3 c3).heap.size = w1.heap.size := by simp [W2of]
  have hp1 : In w1 p.1 p.2.1 (bxA p.2.2 A1 c1 A2 c2) := hp.keep (hb1.block _ hpl)
  have h2 := (w2_in (A3 := A3) (c3 := c3) hp1).keep (W' := (W2of w1 p A3 c3).alloc (.cells zs ty)) (Below.heap_alloc _ _ _ (by omega))
  have h8 : ((W2of w1 p A3 c3).alloc (.cells zs ty)).cell? ⟨p.1, p.2.1 + 8, none⟩ = some (.slice none 0 0) := h2.cell (j := 8) (show 8 < 11 by omega)
  have hnew : ((W2of w1 p A3 c3).alloc (.cells zs ty)).heap[w1.heap.size]? = some (.cells zs ty (0, 0)) := by rw [← hs2]; exact blk_new _ _
  refine ⟨h8, h2.free _, World.cell?_setCell_same' _ _ _ (by rw [h8]; rfl), blk_far hnew (p := ⟨p.1, p.2.1 + 8, none⟩) (by show w1.heap.size ≠ p.1; omega) _, ?_⟩
  have hh : Below w.heap.size w w1 := hbel.trans (hb1.mono hbel.size)
  have h3 := (hh.setCell (p := ⟨p.1, p.2.1 + 10, none⟩) hbase (.slice A3 p.2.2.src.length c3)).setCell (p := ⟨p.1, p.2.1 + 8, none⟩) hbase (.slice none 0 0)
  exact (h3.alloc (by have := hbel.size; show w.heap.size ≤ (W2of w1 p A3 c3).heap.size; omega) (.cells zs ty)).setCell (p := ⟨p.1, p.2.1 + 8, none⟩) hbase v
/-- A row that is copied whole. -/
theorem row_copy (cs : List Value) (zs : Array Value) (h : zs.size = cs.length) : (zs.toList.take 0 ++ (cs ++ zs.toList.drop (0 + cs.length))).toArray = cs.toArray := by
  rw [List.drop_eq_nil_of_le (by simp; omega)]
  simp
theorem kids_out {lo hi : Nat} {W : World} {A : Option Addr} {l : List Bx} (h : Kids W lo hi A l) : ∃ (K : Nat → Option Addr) (C : Nat → Nat) (K' : Nat → Option Addr) (C' : Nat → Nat), (0 < l.length → ∃ b off, A = some ⟨b, off, none⟩ ∧ lo ≤ b ∧ b < hi ∧ ∀ i, i < l.length → ∀ j, j < 11 → W.cell? ⟨b, off + i * 11 + j, none⟩ = (bxA (kidAt l i) (K i) (C i) (K' i) (C' i))[j]?) ∧ (∀ i, i < l.length → Kids W lo hi (K i) (kidAt l i).kids ∧ Ints W lo hi (K' i) (kidAt l i).src ∧ lens (kidAt l i)) := by
  cases h with
  | mk _ _ K K' C C' hA hS hN hK => exact ⟨K, C, K', C', hA, fun i hi => ⟨hK i hi, hS i hi, hN i hi⟩⟩
theorem kid_src {W : World} {b off : Nat} {l : List Bx} {K : Nat → Option Addr} {C : Nat → Nat} {K' : Nat → Option Addr} {C' : Nat → Nat} (h : ∀ i, i < l.length → ∀ j, j < 11 → W.cell? ⟨b, off + i * 11 + j, none⟩ = (bxA (kidAt l i) (K i) (C i) (K' i) (C' i))[j]?) (j : Nat) (v : Value) (hv : (kidCells l K C K' C')[j]? = some v) : W.cell? ((⟨b, off, none⟩ : Addr).add j) = some v := by
  obtain ⟨h1, h2⟩ := kidCells_of hv
  rw [show (⟨b, off, none⟩ : Addr).add j = ⟨b, off + j, none⟩ by unfold Addr.add; split <;> simp_all, show off + j = off + j / 11 * 11 + j % 11 by omega, h _ h1 _ (by omega)]
  exact h2
/-- What a round with kids leaves. -/
abbrev W4of (w1 : World) (p : Node) (A3 : Option Addr) (c3 n : Nat) (zs cs : Array Value) (ty : TypeId) : World :=
  (((W2of w1 p A3 c3).alloc (.cells zs ty)).setCell ⟨p.1, p.2.1 + 8, none⟩ (.slice (some ⟨w1.heap.size, 0, none⟩) n n)).setRow w1.heap.size cs
theorem it1 {n : Nat} {zs cs : Array Value} {ty : TypeId} {K K' : Nat → Option Addr} {C C' : Nat → Nat} (hp : In wr p.1 p.2.1 (bxA p.2.2 A1 c1 A2 c2)) (hn : p.2.2.kids.length = n) (hb1 : Below wr.heap.size wr w1) (hI : Ints w1 wr.heap.size w1.heap.size A3 p.2.2.src) (hbel : Below w.heap.size w wr) (hbase : w.heap.size ≤ p.1)
    (hcz : cs.size = n * 11) (hcs : ∀ i, i < n → ∀ j, j < 11 → cs[i * 11 + j]? = (bxA (kidAt p.2.2.kids i) (K i) (C i) (K' i) (C' i))[j]?) (hKK : ∀ i, i < n → Kids w 0 w.heap.size (K i) (kidAt p.2.2.kids i).kids ∧ Ints w 0 w.heap.size (K' i) (kidAt p.2.2.kids i).src ∧ lens (kidAt p.2.2.kids i)) :
    It w wr (W4of w1 p A3 c3 n zs cs ty) p w1.heap.size (some ⟨w1.heap.size, 0, none⟩) n A3 c3 := by
  have hpl := hp.lt
  have hs1 := hb1.size
  have hp1 : In w1 p.1 p.2.1 (bxA p.2.2 A1 c1 A2 c2) := hp.keep (hb1.block _ hpl)
  have hs2 : (W2of w1 p A3 c3).heap.size = w1.heap.size := by simp [W2of]
  have hnew : ((W2of w1 p A3 c3).alloc (.cells zs ty)).heap[w1.heap.size]? = some (.cells zs ty (0, 0)) := by rw [← hs2]; exact blk_new _ _
  have hgk : (((W2of w1 p A3 c3).alloc (.cells zs ty)).setCell ⟨p.1, p.2.1 + 8, none⟩ (.slice (some ⟨w1.heap.size, 0, none⟩) n n)).heap[w1.heap.size]? = some (.cells zs ty (0, 0)) := blk_far hnew (p := ⟨p.1, p.2.1 + 8, none⟩) (by show w1.heap.size ≠ p.1; omega) _
  have hgk4 : (W4of w1 p A3 c3 n zs cs ty).heap[w1.heap.size]? = some (.cells cs ty (0, 0)) := setRow_heap _ _ _ _ _ _ hgk
  have hsz4 : (W4of w1 p A3 c3 n zs cs ty).heap.size = w1.heap.size + 1 := by simp [W4of, W2of]
  have hold : ∀ k, k < w1.heap.size → ∀ off, ¬ (k = p.1 ∧ off = p.2.1 + 10) → ¬ (k = p.1 ∧ off = p.2.1 + 8) → (W4of w1 p A3 c3 n zs cs ty).cell? ⟨k, off, none⟩ = w1.cell? ⟨k, off, none⟩ := fun k hk off h1 h2 => by
    rw [cell_setRow_other _ _ _ _ (by show k ≠ w1.heap.size; omega), setCell_cell _ h2]
    rw [show ((W2of w1 p A3 c3).alloc (.cells zs ty)).cell? ⟨k, off, none⟩ = (W2of w1 p A3 c3).cell? ⟨k, off, none⟩ from cell_of_heap (Below.heap_alloc _ _ _ (by omega))]
    rw [setCell_cell _ h2, setCell_cell _ h1]
  have hoth : ∀ e : Node, e.1 < w1.heap.size → ∀ arr : Array Value, In (W2of w1 p A3 c3) e.1 e.2.1 arr → In ((W2of w1 p A3 c3).alloc (.cells zs ty)) e.1 e.2.1 arr := fun e he arr h => h.keep (Below.heap_alloc _ _ _ (by omega))
  refine ⟨by omega, ?_, fun e he arr ha h => ?_, fun k off hk hn => ?_, fun k hk hn => ?_, fun h0 => ⟨rfl, hs1, by omega, fun i hi => ?_⟩, fun h0 => ?_, ?_⟩
  · have h1 := hoth p (by omega) _ (w2_in (A3 := A3) (c3 := c3) hp1)
    have h2 := (h1.store (k := 8) (show 8 < 11 by omega) (.slice (some ⟨w1.heap.size, 0, none⟩) n n)).keep (setRow_other _ w1.heap.size _ cs (by omega))
    rw [show bxA p.2.2 (some ⟨w1.heap.size, 0, none⟩) n A3 c3 = _ from by unfold bxA; rw [hn]]
    exact h2
  · have h1 := apart_aside he ha (j := 8) (by omega) (.slice none 0 0) (apart_aside he ha (j := 10) (by omega) (.slice A3 p.2.2.src.length c3) (h.keep (hb1.block _ h.lt)))
    have hl := h.lt
    have h2 := hoth e (by omega) _ h1
    exact (apart_aside he ha (j := 8) (by omega) (.slice (some ⟨w1.heap.size, 0, none⟩) n n) h2).keep (setRow_other _ w1.heap.size _ cs (by omega))
  · obtain ⟨h1, h2⟩ := not_hit hn
    rw [hold k (by omega) off h1 h2]
    exact hb1.cell (p := ⟨k, off, none⟩) hk
  · rw [setRow_other _ _ _ _ (by omega), Below.heap_setCell _ _ _ _ hn, Below.heap_alloc _ _ _ (by omega), Below.heap_setCell _ _ _ _ hn, Below.heap_setCell _ _ _ _ hn]
    exact hb1.block k hk
  · obtain ⟨h1, h2, h3⟩ := hKK i (by omega)
    refine ⟨K i, C i, K' i, C' i, ⟨cs, ty, hgk4, ?_, fun j hj => hcs i (by omega) j hj⟩, h1, h2, h3, ?_⟩
    · show i * 11 + 11 ≤ cs.size
      rw [hcz]
      rw [hn] at hi
      omega
    · have := hbel.size
      show w.heap.size ≤ w1.heap.size
      omega
  · obtain ⟨b, off, e, h1, h2, h3⟩ := hI h0
    refine ⟨b, off, e, h1, by omega, fun _ => by omega, fun k hk => ?_⟩
    rw [hold b h2 _ (fun e => by omega) (fun e => by omega)]
    exact h3 k hk
  · have hh : Below w.heap.size w w1 := hbel.trans (hb1.mono hbel.size)
    have h2 := (hh.setCell (p := ⟨p.1, p.2.1 + 10, none⟩) hbase (.slice A3 p.2.2.src.length c3)).setCell (p := ⟨p.1, p.2.1 + 8, none⟩) hbase (.slice none 0 0)
    have h3 := (h2.alloc (by have := hbel.size; show w.heap.size ≤ (W2of w1 p A3 c3).heap.size; omega) (.cells zs ty)).setCell (p := ⟨p.1, p.2.1 + 8, none⟩) hbase (.slice (some ⟨w1.heap.size, 0, none⟩) n n)
    exact below_setRow h3 (by have := hbel.size; omega) _
end
end Go.Proofs.Ytlgnghehgcoccaa
