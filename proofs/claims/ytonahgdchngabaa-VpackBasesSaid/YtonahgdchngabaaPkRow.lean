/- A row of boxes whose places on one axis are under work. -/
import Derived.Test.YtonahgdchngabaaRowCp
import Derived.RangeFuncNested
import Derived.RangeFuncBox
import Derived.RangeFuncWrites
namespace Go.Proofs.Ytonahgdchngabaa
open Go.RowKit
/-- A box at another height. -/
def Bx.atY (t : Bx) (y : Int) : Bx := .mk t.k t.nm t.sz t.w t.h t.d t.x y t.kids t.of_ t.src
theorem Bx.atY_self (t : Bx) : t.atY t.y = t := (Bx.eta t).symm
def Q5.atY (q : Q5) (y : Int) : Q5 := ⟨q.t.atY y, q.A, q.c, q.A', q.c'⟩
theorem Q5.atY_other (q : Q5) (y : Int) {j : Nat} (hj : j < 11) (h : j ≠ 7) : (q.atY y).cells[j]? = q.cells[j]? := by
  unfold Q5.cells Q5.atY Bx.atY
  match j, hj, h with
  | 0, _, _ => rfl
  | 1, _, _ => rfl
  | 2, _, _ => rfl
  | 3, _, _ => rfl
  | 4, _, _ => rfl
  | 5, _, _ => rfl
  | 6, _, _ => rfl
  | 7, _, h => exact absurd rfl h
  | 8, _, _ => rfl
  | 9, _, _ => rfl
  | 10, _, _ => rfl
theorem Q5.atY_7 (q : Q5) (y : Int) : (q.atY y).cells[7]? = some (.int .i64 y) := rfl
/-- The row at block g holds the boxes Q, at the heights Y. -/
def RowAt (g : Nat) (Q : List Q5) (Y : Nat → Int) (W : World) : Prop :=
  ∃ cs, W.heap[g]? = some (.cells cs 27 (0, 0)) ∧ ∀ i q, Q[i]? = some q → ∀ j, j < 11 → cs[i * 11 + j]? = (q.atY (Y i)).cells[j]?
theorem RowAt.cell {g : Nat} {Q : List Q5} {Y : Nat → Int} {W : World} (h : RowAt g Q Y W) {i : Nat} {q : Q5} (hq : Q[i]? = some q) {j : Nat} (hj : j < 11) {v : Value} (hv : (q.atY (Y i)).cells[j]? = some v) : W.cell? ⟨g, i * 11 + j, none⟩ = some v := by
  obtain ⟨cs, h1, h2⟩ := h
  exact blk_cell h1 _ _ ((h2 i q hq j hj).trans hv)
theorem RowAt.free {g : Nat} {Q : List Q5} {Y : Nat → Int} {W : World} (h : RowAt g Q Y W) (k : Nat) : W.frozen? ⟨g, k, none⟩ = false := by
  obtain ⟨cs, h1, h2⟩ := h
  exact blk_free h1 k
theorem RowAt.lt {g : Nat} {Q : List Q5} {Y : Nat → Int} {W : World} (h : RowAt g Q Y W) : g < W.heap.size := by
  obtain ⟨cs, h1, h2⟩ := h
  exact (Array.getElem?_eq_some_iff.1 h1).1
theorem RowAt.keep {g : Nat} {Q : List Q5} {Y : Nat → Int} {W W' : World} (h : RowAt g Q Y W) (hb : W'.heap[g]? = W.heap[g]?) : RowAt g Q Y W' := by
  obtain ⟨cs, h1, h2⟩ := h
  exact ⟨cs, hb.trans h1, h2⟩
def updI (Y : Nat → Int) (i : Nat) (y : Int) : Nat → Int := fun k => if k = i then y else Y k
theorem RowAt.set {g : Nat} {Q : List Q5} {Y : Nat → Int} {W : World} (h : RowAt g Q Y W) {i : Nat} (hi : i < Q.length) (y : Int) : RowAt g Q (updI Y i y) (W.setCell ⟨g, i * 11 + 7, none⟩ (.int .i64 y)) := by
  obtain ⟨cs, h1, h2⟩ := h
  refine ⟨_, blk_set h1 _ _, fun k q hq j hj => ?_⟩
  by_cases e : k = i
  · subst e
    by_cases e7 : j = 7
    · subst e7
      have hsz : k * 11 + 7 < cs.size := by
        have := h2 k q hq 7 (by omega)
        rw [Q5.atY_7] at this
        exact (Array.getElem?_eq_some_iff.1 this).1
      rw [Array.getElem?_setIfInBounds_self_of_lt hsz]
      unfold updI
      rw [if_pos rfl, Q5.atY_7]
    · rw [Array.getElem?_setIfInBounds_ne (by omega), h2 k q hq j hj, Q5.atY_other _ _ hj e7, Q5.atY_other _ _ hj e7]
  · rw [Array.getElem?_setIfInBounds_ne (by omega), h2 k q hq j hj]
    unfold updI
    rw [if_neg e]
/-- The row as it was copied. -/
theorem row_start {g n : Nat} {Q : List Q5} {A : Option Addr} {W : World} {g0 : Nat} (h : Copied g0 27 (rowC Q) n A W) (h0 : 0 < n) (hA : A = some ⟨g, 0, none⟩) : RowAt g Q (fun i => ((Q[i]?).getD noQ).t.y) W := by
  obtain ⟨b, cur, e, _, h1, h2⟩ := h h0
  rw [hA] at e
  injection e with e
  injection e with e
  subst e
  refine ⟨cur, h1, fun i q hq j hj => ?_⟩
  have e1 : (fun i => ((Q[i]?).getD noQ).t.y) i = q.t.y := by simp [hq]
  rw [e1]
  have e2 : q.atY q.t.y = q := by unfold Q5.atY; rw [Bx.atY_self]
  rw [e2]
  have h5 : j < q.cells.length := by rw [Q5.len]; exact hj
  rw [List.getElem?_eq_getElem h5]
  exact h2 _ _ ((rowC_at Q i j q hq hj).trans (List.getElem?_eq_getElem h5))
/-- The boxes at their heights. -/
def rowY (Q : List Q5) (Y : Nat → Int) : List Q5 := Q.mapIdx fun i q => q.atY (Y i)
theorem rowY_len (Q : List Q5) (Y : Nat → Int) : (rowY Q Y).length = Q.length := by simp [rowY]
theorem rowY_at {Q : List Q5} {Y : Nat → Int} {i : Nat} {q : Q5} (h : Q[i]? = some q) : (rowY Q Y)[i]? = some (q.atY (Y i)) := by simp [rowY, h]
theorem RowAt.kids {g : Nat} {Q : List Q5} {Y : Nat → Int} {W : World} {lo hi : Nat} (h : RowAt g Q Y W) (h1 : lo ≤ g) (h2 : g < hi) (hm : ∀ q ∈ Q, Lies W lo hi q) : Kids W lo hi (some ⟨g, 0, none⟩) ((rowY Q Y).map Q5.t) := by
  obtain ⟨cs, hb, hc⟩ := h
  refine kids_row (fun k u hu => ?_) h1 h2 fun q hq => ?_
  · rw [Nat.zero_add]
    obtain ⟨q, hq, hu2⟩ := rowC_of _ _ _ hu
    have hk := (List.getElem?_eq_some_iff.1 hq).1
    rw [rowY_len] at hk
    have hq2 := rowY_at (Y := Y) (List.getElem?_eq_getElem hk)
    rw [hq] at hq2
    injection hq2 with hq2
    subst hq2
    refine blk_cell hb k u ?_
    rw [show k = k / 11 * 11 + k % 11 by omega, hc _ _ (List.getElem?_eq_getElem hk) _ (by omega)]
    exact hu2
  · obtain ⟨i, hi, rfl⟩ := List.mem_iff_getElem.1 hq
    have hi' : i < Q.length := by rw [rowY_len] at hi; exact hi
    have := rowY_at (Y := Y) (List.getElem?_eq_getElem hi')
    rw [List.getElem?_eq_getElem hi] at this
    injection this with this
    rw [this]
    have h := hm _ (List.getElem_mem hi')
    exact ⟨h.1, h.2.1, h.2.2⟩
theorem heap_from {β : Type} (b B : Nat) (cs : Array Value) (t : TypeId) : OwnFrom B (fun (_ : β) (W : World) => W.heap[b]? = some (.cells cs t (0, 0))) := fun _ W W' row h hg hr => by
  refine (hg.block b (Array.getElem?_eq_some_iff.1 h).1 (fun e => ?_)).trans h
  obtain ⟨_, o, ho, hc⟩ := hr b e.symm
  rw [h] at ho
  cases ho
  cases hc
theorem rowAt_from {β : Type} (g B : Nat) (Q : List Q5) (Y : β → Nat → Int) : OwnFrom B (fun (s : β) (W : World) => RowAt g Q (Y s) W) := fun s W W' row h hg hr => by
  obtain ⟨cs, h1, h2⟩ := h
  exact ⟨cs, heap_from (β := Unit) g B cs _ () W W' row h1 hg hr, h2⟩
theorem inWide {P : Program} {F : Fence} {n : Nat} {f : FuncId} {args : Array Value} {w : World} {R : Ending → World → Prop} (hF : F = Fence.wide) (h : Calls P f args w R) : CallsIn F n P f args w R := by
  subst hF; exact callsIn_wide.2 h
theorem grown_new {w w' : World} (h : Below w.heap.size w w') : w.grownBy w' none := ⟨h.os, h.tape, h.output, h.size, fun k hk _ => h.block k hk⟩
end Go.Proofs.Ytonahgdchngabaa
