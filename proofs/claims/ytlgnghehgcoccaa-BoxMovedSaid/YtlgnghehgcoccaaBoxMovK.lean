/- The law on moved boxes: the state of the loop that moves the kids. -/
import Derived.Test.YtlgnghehgcoccaaBoxListA
import Derived.Test.YtlgnghehgcoccaaBoxMovP
import Derived.Test.YtlgnghehgcoccaaBoxAt
namespace Go.Proofs.Ytlgnghehgcoccaa
open Go.RowKit Go.Deep
/-- The cells of the list whose kids are moved, while it has n of them. -/
abbrev mb (t : Bx) (B : Option Addr) (d : Nat) (A : Option Addr) (n c : Nat) : Array Value :=
  #[.int .i64 t.k, .string t.nm, .int .i64 t.sz, .int .i64 t.w, .int .i64 t.h, .int .i64 t.d, .int .i64 t.x, .int .i64 t.y, .slice A n c, .int .i64 t.of_, .slice B t.src.length d]
structure MS (w : World) (p : Nat) (t : Bx) (B : Option Addr) (d : Nat) (l : List Bx) (i : Nat) (A : Option Addr) (cx : Nat) (Q : List Q5) (W : World) : Prop where
  map : Q.map Q5.t = l.take i
  len : Q.length = i
  box : W.heap[p]? = some (.cells (mb t B d A i cx) 25 (0, 0))
  own : W.ownsRow (p + 1) 25 11 (.slice A i cx) i (rowC Q)
  mem : ∀ q ∈ Q, Kids w 0 p q.A q.t.kids ∧ lens q.t ∧ ∃ gx, (Value.slice A i cx).ownBlock = some gx ∧ (Ints W (p + 1) gx q.A' q.t.src ∨ Ints W (gx + 1) W.heap.size q.A' q.t.src)
  bel : Below p w W
  siz : p + 1 ≤ W.heap.size
theorem MS.next {w : World} {p : Nat} {t : Bx} {B : Option Addr} {d : Nat} {l : List Bx} {i : Nat} {A : Option Addr} {cx : Nat} {Q : List Q5} {wr W3 W4 : World} {A' : Option Addr} {c' : Nat} {q : Q5}
    (h : MS w p t B d l i A cx Q wr) (hi : i < l.length) (hq : q.t = kidAt l i) (hb : Below wr.heap.size wr W3) (hk : Kids w 0 p q.A q.t.kids) (hl : lens q.t) (hI : Ints W3 wr.heap.size W3.heap.size q.A' q.t.src)
    (hown : W4.ownsRow (p + 1) 25 11 (.slice A' (i + 1) c') (i + 1) (rowC Q ++ q.cells)) (hg : W3.grownBy W4 (Value.slice A i cx).ownBlock) (ho : (Value.slice A' (i + 1) c').ownBlock = (Value.slice A i cx).ownBlock ∨ (Value.slice A' (i + 1) c').ownBlock = some W3.heap.size) :
    MS w p t B d l (i + 1) A' c' (Q ++ [q]) (W4.setCell ⟨p, 8, none⟩ (.slice A' (i + 1) c')) := by
  have hob := own_block h.own
  have hs3 := hb.size
  have hs4 := hg.size
  have hsiz := h.siz
  obtain ⟨g, rfl, hg1, hg2, hg3⟩ := own_cell hown (by omega)
  have hob' : (Value.slice (some ⟨g, 0, none⟩) (i + 1) c').ownBlock = some g := rfl
  rw [hob'] at ho
  have hkeep : ∀ k, k < W3.heap.size → (∀ x, (Value.slice A i cx).ownBlock = some x → k ≠ x) → W4.heap[k]? = W3.heap[k]? := fun k hk hn => hg.block k hk (fun e => hn k e.symm rfl)
  have hlow : ∀ k, k < p + 1 → W4.heap[k]? = wr.heap[k]? := fun k hk => by
    rw [hkeep k (by omega) (fun x hx => by have := (hob x hx).1; omega)]
    exact hb.block k (by omega)
  have hbx : W4.heap[p]? = some (.cells (mb t B d A i cx) 25 (0, 0)) := (hlow p (by omega)).trans h.box
  have hmem : ∀ (lo hi : Nat) (P : Option Addr) (s : List Int), p + 1 ≤ lo → hi ≤ W3.heap.size → (∀ x, (Value.slice A i cx).ownBlock = some x → x < lo ∨ hi ≤ x) → Ints W3 lo hi P s → Ints (W4.setCell ⟨p, 8, none⟩ (.slice (some ⟨g, 0, none⟩) (i + 1) c')) lo hi P s := fun lo hi P s h1 h2 h3 hp => by
    refine hp.same fun b o hb1 hb2 => ?_
    refine (cell_of_heap (Below.heap_setCell _ ⟨p, 8, none⟩ _ b (by show b ≠ p; omega))).trans (cell_of_heap (hkeep b (by omega) (fun x hx => ?_)))
    have := h3 x hx
    omega
  have hold : ∀ (lo hi : Nat) (P : Option Addr) (s : List Int), hi ≤ wr.heap.size → Ints wr lo hi P s → Ints W3 lo hi P s := fun lo hi P s h1 hp => hp.same fun b o _ hb2 => cell_of_heap (hb.block b (by omega))
  refine ⟨?_, by simp [h.len], ?_, ?_, fun y hy => ?_, ?_, by simp; omega⟩
  · rw [List.map_append, h.map, take_kid l hi]
    simp [hq]
  · exact blk_set hbx 8 (.slice (some ⟨g, 0, none⟩) (i + 1) c')
  · rw [rowC_append, rowC_one]
    exact own_keep hown (Below.heap_setCell _ ⟨p, 8, none⟩ _ g (by show g ≠ p; omega))
  · have hcase : (Kids w 0 p y.A y.t.kids ∧ lens y.t) := by
      rcases List.mem_append.1 hy with h1 | h1
      · exact ⟨(h.mem y h1).1, (h.mem y h1).2.1⟩
      · obtain rfl : y = q := by simpa using h1
        exact ⟨hk, hl⟩
    refine ⟨hcase.1, hcase.2, g, rfl, ?_⟩
    rcases ho with ho | ho
    · have hgw : g < wr.heap.size := (hob g ho.symm).2
      rcases List.mem_append.1 hy with h1 | h1
      · obtain ⟨_, _, gx, e, h2⟩ := h.mem y h1
        rw [← ho] at e
        cases e
        rcases h2 with h2 | h2
        · exact .inl (hmem _ _ _ _ (Nat.le_refl _) (by omega) (fun x hx => by rw [← ho] at hx; cases hx; exact .inr (Nat.le_refl _)) (hold _ _ _ _ (by omega) h2))
        · exact .inr ((hmem _ _ _ _ (by omega) (by omega) (fun x hx => by rw [← ho] at hx; cases hx; exact .inl (by omega)) (hold _ _ _ _ (Nat.le_refl _) h2)).mono (Nat.le_refl _) (by simp; omega))
      · obtain rfl : y = q := by simpa using h1
        exact .inr ((hmem _ _ _ _ (by omega) (Nat.le_refl _) (fun x hx => by rw [← ho] at hx; cases hx; exact .inl (by omega)) hI).mono (by omega) (by simp; omega))
    · injection ho with ho
      rcases List.mem_append.1 hy with h1 | h1
      · obtain ⟨_, _, gx, e, h2⟩ := h.mem y h1
        have hgx := hob gx e
        rcases h2 with h2 | h2
        · exact .inl ((hmem _ _ _ _ (Nat.le_refl _) (by omega) (fun x hx => by rw [e] at hx; cases hx; exact .inr (Nat.le_refl _)) (hold _ _ _ _ (by omega) h2)).mono (Nat.le_refl _) (by omega))
        · exact .inl ((hmem _ _ _ _ (by omega) (by omega) (fun x hx => by rw [e] at hx; cases hx; exact .inl (by omega)) (hold _ _ _ _ (Nat.le_refl _) h2)).mono (by omega) (by omega))
      · obtain rfl : y = q := by simpa using h1
        exact .inl ((hmem _ _ _ _ (by omega) (Nat.le_refl _) (fun x hx => .inl (hob x hx).2) hI).mono (by omega) (by omega))
  · have h1 : Below p w W3 := h.bel.trans (hb.mono (by omega))
    have h2 : Below p W3 W4 := grown_below hg (by omega) (fun k hk => by have := (hob k hk).1; omega)
    exact (h1.trans h2).setCell (p := ⟨p, 8, none⟩) (Nat.le_refl _) _
theorem MS.kept {w : World} {p : Nat} {t : Bx} {B : Option Addr} {d : Nat} {l : List Bx} {i : Nat} {A : Option Addr} {cx : Nat} {Q : List Q5} {wr W3 W4 : World} (h : MS w p t B d l i A cx Q wr) (hb : Below wr.heap.size wr W3) (hg : W3.grownBy W4 (Value.slice A i cx).ownBlock) :
    W4.heap[p]? = some (.cells (mb t B d A i cx) 25 (0, 0)) := by
  have hsz := h.siz
  have hs3 := hb.size
  rw [hg.block p (by omega) (fun e => by have := (own_block h.own _ e.symm).1; omega), hb.block p (by omega)]
  exact h.box
theorem MS.kids {w : World} {p : Nat} {t : Bx} {B : Option Addr} {d : Nat} {l : List Bx} {i : Nat} {A : Option Addr} {cx : Nat} {Q : List Q5} {W : World} (h : MS w p t B d l i A cx Q W) (hi : i = l.length) : Kids W 0 W.heap.size A l := by
  subst hi
  have hm := h.map
  have hs := h.siz
  rw [List.take_length] at hm
  by_cases h0 : 0 < l.length
  · obtain ⟨g, rfl, h1, h2, h3, h4⟩ := own_cell h.own h0
    rw [← hm]
    refine kids_row (fun k u hu => by rw [Nat.zero_add]; exact h4 k u hu) (Nat.zero_le _) h2 fun q hq => ?_
    obtain ⟨hk, hl, gx, e, h5⟩ := h.mem q hq
    have e : some g = some gx := e
    cases e
    refine ⟨(hk.low h.bel).mono (Nat.le_refl _) (by omega), ?_, hl⟩
    rcases h5 with h5 | h5
    · exact h5.mono (Nat.zero_le _) (by omega)
    · exact h5.mono (Nat.zero_le _) (Nat.le_refl _)
  · rw [List.eq_nil_of_length_eq_zero (by omega : l.length = 0)]
    exact Kids.nil _ _ _ _
end Go.Proofs.Ytlgnghehgcoccaa
