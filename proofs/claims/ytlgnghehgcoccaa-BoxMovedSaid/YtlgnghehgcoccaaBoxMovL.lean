/- The law on moved boxes: the state of the loop that compares and moves the places. -/
import Derived.Test.YtlgnghehgcoccaaBoxBFl
namespace Go.Proofs.Ytlgnghehgcoccaa
open Go.RowKit
theorem mv_len (dx dy : Int) (F : List Pl) : (F.map (Pl.mv dx dy)).length = F.length := by simp
theorem mv_at {dx dy : Int} {F : List Pl} {i : Nat} {p : Pl} (h : F[i]? = some p) : (F.map (Pl.mv dx dy))[i]? = some (p.mv dx dy) := by simp [h]
/-- A row of places in a block of its own. -/
def PlIn (W : World) (lo hi : Nat) (A : Option Addr) (F : List Pl) (g : Nat) : Prop :=
  0 < F.length → A = some ⟨g, 0, none⟩ ∧ lo ≤ g ∧ g < hi ∧ ∃ cur : Array Value, W.heap[g]? = some (.cells cur 42 (0, 0)) ∧ ∀ (j : Nat) (u : Value), (plC F)[j]? = some u → cur[j]? = some u
theorem plIn_own {W : World} {lo n c : Nat} {A : Option Addr} {F : List Pl} (h : W.ownsRow lo 42 8 (.slice A n c) n (plC F)) (hn : n = F.length) : ∃ g, lo ≤ g ∧ PlIn W lo W.heap.size A F g := by
  subst hn
  rcases h.2 with ⟨h1, h0⟩ | ⟨g, cap, cur, h1, hg, hb, hcap, _, hsz, ht⟩
  · exact ⟨lo, Nat.le_refl _, fun h => by omega⟩
  · refine ⟨g, hg, fun h0 => ?_⟩
    cases h1
    refine ⟨rfl, hg, (Array.getElem?_eq_some_iff.1 hb).1, cur, hb, fun j u hu => ?_⟩
    rw [← ht, List.getElem?_take] at hu
    split at hu
    · simpa using hu
    · cases hu
/-- The place that the loop finds. -/
theorem PlIn.at {W : World} {lo hi g : Nat} {A : Option Addr} {F : List Pl} (h : PlIn W lo hi A F g) {i : Nat} {p : Pl} (hp : F[i]? = some p) {W' : World} (hw : W'.heap[g]? = W.heap[g]?) : ∀ k, k < 8 → W'.cell? ⟨g, i * 8 + k, none⟩ = p.row[k]? := fun k hk => by
  obtain ⟨_, _, _, cur, hb, hc⟩ := h (by have := (List.getElem?_eq_some_iff.1 hp).1; omega)
  have h1 := plC_at F i k p hp hk
  have h2 : k < p.row.size := hk
  rw [Array.getElem?_eq_getElem h2] at h1 ⊢
  exact blk_cell (hw.trans hb) _ _ (hc _ _ h1)
theorem PlIn.low {W W' : World} {lo hi g : Nat} {A : Option Addr} {F : List Pl} (h : PlIn W lo hi A F g) (hb : Below hi W W') : PlIn W' lo hi A F g := fun h0 => by
  obtain ⟨h1, h2, h3, cur, h4, h5⟩ := h h0
  exact ⟨h1, h2, h3, cur, (hb.block g h3).trans h4, h5⟩
structure MvR (F : List Pl) (dx dy : Int) (g lo : Nat) (W9 W : World) (i : Nat) : Prop where
  row : 0 < F.length → ∃ cur : Array Value, W.heap[g]? = some (.cells cur 42 (0, 0)) ∧ ∀ j p, F[j]? = some p → ∀ k, k < 8 → cur[j * 8 + k]? = (Pl.row (if j < i then p.mv dx dy else p))[k]?
  same : ∀ k, k ≠ g → k < W9.heap.size → W.heap[k]? = W9.heap[k]?
  bel : Below lo W9 W
theorem MvR.zero {F : List Pl} {dx dy : Int} {g lo lo' hi : Nat} {W9 : World} {A : Option Addr} (h : PlIn W9 lo' hi A F g) : MvR F dx dy g lo W9 W9 0 := by
  refine ⟨fun h0 => ?_, fun _ _ _ => rfl, Below.refl _ _⟩
  obtain ⟨_, _, _, cur, hb, hc⟩ := h h0
  refine ⟨cur, hb, fun j p hp k hk => ?_⟩
  rw [if_neg (Nat.not_lt_zero _)]
  have h1 := plC_at F j k p hp hk
  have h2 : k < p.row.size := hk
  rw [Array.getElem?_eq_getElem h2] at h1 ⊢
  exact hc _ _ h1
theorem MvR.cell {F : List Pl} {dx dy : Int} {g lo i : Nat} {W9 W : World} (h : MvR F dx dy g lo W9 W i) {p : Pl} (hp : F[i]? = some p) : (∀ k, k < 8 → W.cell? ⟨g, i * 8 + k, none⟩ = p.row[k]?) ∧ ∃ cur : Array Value, W.heap[g]? = some (.cells cur 42 (0, 0)) ∧ i * 8 + 7 < cur.size := by
  obtain ⟨cur, hb, hc⟩ := h.row (by have := (List.getElem?_eq_some_iff.1 hp).1; omega)
  refine ⟨fun k hk => ?_, cur, hb, ?_⟩
  · have h1 := hc i p hp k hk
    rw [if_neg (Nat.lt_irrefl _)] at h1
    have h2 : k < p.row.size := hk
    rw [Array.getElem?_eq_getElem h2] at h1 ⊢
    exact blk_cell hb _ _ h1
  · have h1 := hc i p hp 7 (by omega)
    rw [if_neg (Nat.lt_irrefl _)] at h1
    exact (Array.getElem?_eq_some_iff.1 (h1.trans (Array.getElem?_eq_getElem (show 7 < p.row.size from Nat.lt_succ_self 7)))).1
theorem MvR.next {F : List Pl} {dx dy : Int} {g lo i : Nat} {W9 W : World} (h : MvR F dx dy g lo W9 W i) (hlo : lo ≤ g) {p : Pl} (hp : F[i]? = some p) (n1 n2 : Nat) :
    MvR F dx dy g lo W9 ((((W.drewN n1).setCell ⟨g, i * 8 + 3, none⟩ (.int .i64 (IntKind.i64.wrap (p.x + dx)))).setCell ⟨g, i * 8 + 4, none⟩ (.int .i64 (IntKind.i64.wrap (p.y + dy)))).drewN n2) (i + 1) := by
  obtain ⟨cur, hb, hc⟩ := h.row (by have := (List.getElem?_eq_some_iff.1 hp).1; omega)
  obtain ⟨_, _, hb', hsz⟩ := h.cell hp
  rw [hb] at hb'
  cases hb'
  have hb1 : (W.drewN n1).heap[g]? = some (.cells cur 42 (0, 0)) := hb
  have hb2 := blk_set (blk_set hb1 (i * 8 + 3) (.int .i64 (IntKind.i64.wrap (p.x + dx)))) (i * 8 + 4) (.int .i64 (IntKind.i64.wrap (p.y + dy)))
  refine ⟨fun _ => ⟨_, hb2, fun j q hq k hk => ?_⟩, fun k hk hl => ?_, ?_⟩
  · have h1 := hc j q hq k hk
    by_cases e : j = i
    · subst e
      rw [hp] at hq
      cases hq
      rw [if_neg (Nat.lt_irrefl _)] at h1
      rw [if_pos (Nat.lt_succ_self _)]
      by_cases e3 : k = 3
      · subst e3
        rw [Array.getElem?_setIfInBounds_ne (by omega)]
        simp [show j * 8 + 3 < cur.size by omega, Pl.mv]
      by_cases e4 : k = 4
      · subst e4
        simp [show j * 8 + 4 < cur.size by omega, Pl.mv]
      rw [Array.getElem?_setIfInBounds_ne (by omega), Array.getElem?_setIfInBounds_ne (by omega), h1]
      match k, hk, e3, e4 with
      | 0, _, _, _ => rfl
      | 1, _, _, _ => rfl
      | 2, _, _, _ => rfl
      | 5, _, _, _ => rfl
      | 6, _, _, _ => rfl
      | 7, _, _, _ => rfl
    · rw [Array.getElem?_setIfInBounds_ne (by omega), Array.getElem?_setIfInBounds_ne (by omega), h1]
      by_cases e2 : j < i
      · rw [if_pos e2, if_pos (by omega)]
      · rw [if_neg e2, if_neg (by omega)]
  · have e1 : ((((W.drewN n1).setCell ⟨g, i * 8 + 3, none⟩ (.int .i64 (IntKind.i64.wrap (p.x + dx)))).setCell ⟨g, i * 8 + 4, none⟩ (.int .i64 (IntKind.i64.wrap (p.y + dy)))).drewN n2).heap[k]? = W.heap[k]? :=
      (Below.heap_setCell _ ⟨g, i * 8 + 4, none⟩ _ k hk).trans (Below.heap_setCell _ ⟨g, i * 8 + 3, none⟩ _ k hk)
    exact e1.trans (h.same k hk hl)
  · exact below_drewN (((below_drewN h.bel n1).setCell (p := ⟨g, i * 8 + 3, none⟩) hlo _).setCell (p := ⟨g, i * 8 + 4, none⟩) hlo _) n2
end Go.Proofs.Ytlgnghehgcoccaa
