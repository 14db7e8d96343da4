/- box.List: the state of its loop. -/
import Derived.Test.YtlgnghehgcoccaaBoxDeepX
import Derived.Test.YtlgnghehgcoccaaAppOwn
namespace Go.Proofs.Ytlgnghehgcoccaa
open Go.RowKit Go.Deep
def listB (W H D : Int) (l : List Bx) : Bx := .mk 3 ⟨#[]⟩ 0 W H D 0 0 l 0 []
/-- The cells of a list under work. -/
abbrev lb (W H D : Int) (A : Option Addr) (n c : Nat) : Array Value :=
  #[.int .i64 3, .string ⟨#[]⟩, .int .i64 0, .int .i64 W, .int .i64 H, .int .i64 D, .int .i64 0, .int .i64 0, .slice A n c, .int .i64 0, .slice none 0 0]
structure LS (w : World) (s : Nat) (l : List Bx) (cs : Option Addr → Nat → Nat → Array Value) (i : Nat) (A : Option Addr) (cx : Nat) (Q : List Q5) (W : World) : Prop where
  map : Q.map Q5.t = l.take i
  len : Q.length = i
  zero : W.heap[s]? = some (.cells zeroBox 25 (0, 0))
  box : W.heap[s + 1]? = some (.cells (cs A i cx) 25 (0, 0))
  own : W.ownsRow (s + 2) 25 11 (.slice A i cx) i (rowC Q)
  mem : ∀ q ∈ Q, ∃ gx, (Value.slice A i cx).ownBlock = some gx ∧ (Lies W (s + 2) gx q ∨ Lies W (gx + 1) W.heap.size q)
  bel : Below s w W
  siz : s + 2 ≤ W.heap.size
theorem own_block {w : World} {base n c size : Nat} {e : TypeId} {A : Option Addr} {xs : List Value} (h : w.ownsRow base e size (.slice A n c) n xs) : ∀ k, (Value.slice A n c).ownBlock = some k → base ≤ k ∧ k < w.heap.size := fun k hk => by
  rcases h.2 with ⟨h1, _⟩ | ⟨g, cap, cur, h1, h2, h3, _⟩
  · rw [h1] at hk; cases hk
  · rw [h1] at hk
    simp [Value.ownBlock] at hk
    have := (Array.getElem?_eq_some_iff.1 h3).1
    omega
theorem grown_below {s : Nat} {w w' : World} {ob : Option Nat} (h : w.grownBy w' ob) (hs : s ≤ w.heap.size) (ho : ∀ k, ob = some k → s ≤ k) : Below s w w' := (Below.refl _ _).grown h hs ho
theorem LS.next {w : World} {s : Nat} {l : List Bx} {cs : Option Addr → Nat → Nat → Array Value} {i : Nat} {A : Option Addr} {cx : Nat} {Q : List Q5} {wr W3 W4 : World} {A' : Option Addr} {c' : Nat} {q : Q5}
    (hw : s = w.heap.size) (hset : ∀ A n c A' n' c', (cs A n c).setIfInBounds 8 (.slice A' n' c') = cs A' n' c') (h : LS w s l cs i A cx Q wr) (hi : i < l.length) (hq : q.t = kidAt l i) (hb : Below wr.heap.size wr W3) (hl : Lies W3 wr.heap.size W3.heap.size q)
    (hown : W4.ownsRow (s + 2) 25 11 (.slice A' (i + 1) c') (i + 1) (rowC Q ++ q.cells)) (hg : W3.grownBy W4 (Value.slice A i cx).ownBlock) (ho : (Value.slice A' (i + 1) c').ownBlock = (Value.slice A i cx).ownBlock ∨ (Value.slice A' (i + 1) c').ownBlock = some W3.heap.size) :
    LS w s l cs (i + 1) A' c' (Q ++ [q]) (W4.setCell ⟨s + 1, 8, none⟩ (.slice A' (i + 1) c')) := by
  have hob := own_block h.own
  have hs3 := hb.size
  have hs4 := hg.size
  have hsiz := h.siz
  obtain ⟨g, rfl, hg1, hg2, hg3⟩ := own_cell hown (by omega)
  have hob' : (Value.slice (some ⟨g, 0, none⟩) (i + 1) c').ownBlock = some g := rfl
  rw [hob'] at ho
  -- what lies below, but for the row's own block
  have hkeep : ∀ k, k < W3.heap.size → (∀ x, (Value.slice A i cx).ownBlock = some x → k ≠ x) → W4.heap[k]? = W3.heap[k]? := fun k hk hn => hg.block k hk (fun e => hn k e.symm rfl)
  have hlow : ∀ k, k < s + 2 → W4.heap[k]? = wr.heap[k]? := fun k hk => by
    rw [hkeep k (by omega) (fun x hx => by have := (hob x hx).1; omega)]
    exact hb.block k (by omega)
  have hz : W4.heap[s]? = some (.cells zeroBox 25 (0, 0)) := (hlow s (by omega)).trans h.zero
  have hbx : W4.heap[s + 1]? = some (.cells (cs A i cx) 25 (0, 0)) := (hlow (s + 1) (by omega)).trans h.box
  have hmem : ∀ (lo hi : Nat) (p : Q5), s + 2 ≤ lo → hi ≤ W3.heap.size → (∀ x, (Value.slice A i cx).ownBlock = some x → x < lo ∨ hi ≤ x) → Lies W3 lo hi p → Lies (W4.setCell ⟨s + 1, 8, none⟩ (.slice (some ⟨g, 0, none⟩) (i + 1) c')) lo hi p := fun lo hi p h1 h2 h3 hp => by
    refine hp.same fun b o hb1 hb2 => ?_
    refine (cell_of_heap (Below.heap_setCell _ ⟨s + 1, 8, none⟩ _ b (by show b ≠ s + 1; omega))).trans (cell_of_heap (hkeep b (by omega) (fun x hx => ?_)))
    have := h3 x hx
    omega
  have hold : ∀ (lo hi : Nat) (p : Q5), hi ≤ wr.heap.size → Lies wr lo hi p → Lies W3 lo hi p := fun lo hi p h1 hp => hp.same fun b o _ hb2 => cell_of_heap (hb.block b (by omega))
  refine ⟨?_, by simp [h.len], (blk_far hz (p := ⟨s + 1, 8, none⟩) (by show s ≠ s + 1; omega) _), ?_, ?_, fun p hp => ⟨g, rfl, ?_⟩, ?_, by simp; omega⟩
  · rw [List.map_append, h.map, take_kid l hi]
    simp [hq]
  · have := blk_set hbx 8 (.slice (some ⟨g, 0, none⟩) (i + 1) c')
    rw [hset] at this
    exact this
  · rw [rowC_append, rowC_one]
    exact own_keep hown (Below.heap_setCell _ ⟨s + 1, 8, none⟩ _ g (by show g ≠ s + 1; omega))
  · rcases ho with ho | ho
    · -- in place
      have hgw : g < wr.heap.size := (hob g ho.symm).2
      rcases List.mem_append.1 hp with h1 | h1
      · obtain ⟨gx, e, h2⟩ := h.mem p h1
        rw [← ho] at e
        cases e
        rcases h2 with h2 | h2
        · exact .inl (hmem _ _ p (Nat.le_refl _) (by omega) (fun x hx => by rw [← ho] at hx; cases hx; exact .inr (Nat.le_refl _)) (hold _ _ _ (by omega) h2))
        · refine .inr ((hmem _ _ p (by omega) (by omega) (fun x hx => by rw [← ho] at hx; cases hx; exact .inl (by omega)) (hold _ _ _ (Nat.le_refl _) h2)).mono (Nat.le_refl _) (by simp; omega))
      · obtain rfl : p = q := by simpa using h1
        exact .inr ((hmem _ _ p (by omega) (Nat.le_refl _) (fun x hx => by rw [← ho] at hx; cases hx; exact .inl (by omega)) hl).mono (by omega) (by simp; omega))
    · -- a row anew
      injection ho with ho
      rcases List.mem_append.1 hp with h1 | h1
      · obtain ⟨gx, e, h2⟩ := h.mem p h1
        have hgx := hob gx e
        rcases h2 with h2 | h2
        · exact .inl ((hmem _ _ p (Nat.le_refl _) (by omega) (fun x hx => by rw [e] at hx; cases hx; exact .inr (Nat.le_refl _)) (hold _ _ _ (by omega) h2)).mono (Nat.le_refl _) (by omega))
        · exact .inl ((hmem _ _ p (by omega) (by omega) (fun x hx => by rw [e] at hx; cases hx; exact .inl (by omega)) (hold _ _ _ (Nat.le_refl _) h2)).mono (by omega) (by omega))
      · obtain rfl : p = q := by simpa using h1
        exact .inl ((hmem _ _ p (by omega) (Nat.le_refl _) (fun x hx => .inl (hob x hx).2) hl).mono (by omega) (by omega))
  · have h1 : Below s w W3 := h.bel.trans (hb.mono (by omega))
    have h2 : Below s W3 W4 := grown_below hg (by omega) (fun k hk => by have := (hob k hk).1; omega)
    exact (h1.trans h2).setCell (p := ⟨s + 1, 8, none⟩) (by show s ≤ s + 1; omega) _
theorem LS.kept {w : World} {s : Nat} {l : List Bx} {cs : Option Addr → Nat → Nat → Array Value} {i : Nat} {A : Option Addr} {cx : Nat} {Q : List Q5} {wr W3 W4 : World} (h : LS w s l cs i A cx Q wr) (hb : Below wr.heap.size wr W3) (hg : W3.grownBy W4 (Value.slice A i cx).ownBlock) :
    W4.heap[s + 1]? = some (.cells (cs A i cx) 25 (0, 0)) := by
  have hsz := h.siz
  have hs3 := hb.size
  rw [hg.block (s + 1) (by omega) (fun e => by have := (own_block h.own _ e.symm).1; omega), hb.block (s + 1) (by omega)]
  exact h.box
/-- At the end: the kids of the list. -/
theorem LS.kids {w : World} {s : Nat} {l : List Bx} {cs : Option Addr → Nat → Nat → Array Value} {i : Nat} {A : Option Addr} {cx : Nat} {Q : List Q5} {W : World} (h : LS w s l cs i A cx Q W) (hi : i = l.length) : Kids W (s + 2) W.heap.size A l := by
  subst hi
  have hm := h.map
  rw [List.take_length] at hm
  by_cases h0 : 0 < l.length
  · obtain ⟨g, rfl, h1, h2, h3, h4⟩ := own_cell h.own h0
    rw [← hm]
    refine kids_row (fun k u hu => by rw [Nat.zero_add]; exact h4 k u hu) h1 h2 fun q hq => ?_
    obtain ⟨gx, e, h5⟩ := h.mem q hq
    have e : some g = some gx := e
    cases e
    rcases h5 with h5 | h5
    · exact h5.mono (Nat.le_refl _) (by omega)
    · exact h5.mono (by omega) (Nat.le_refl _)
  · rw [List.eq_nil_of_length_eq_zero (by omega : l.length = 0)]
    exact Kids.nil _ _ _ _
end Go.Proofs.Ytlgnghehgcoccaa
