/- Rows of small boxes: bounds. -/
import Derived.Test.YtjckbdbjcgjcaaaHpRRow
import Derived.Test.YtjckbdbjcgjcaaaHpSmall
namespace Go.Proofs.Ytjckbdbjcgjcaaa
open Go.RowKit
theorem nest_le {l : List Bx} {K : Nat} (h : ∀ i, i < l.length → nestB (kidAt l i) ≤ K) : nestL l ≤ K := by
  have hk : ∀ n, n ≤ l.length → nestL (l.take n) ≤ K := fun n => by
    induction n with
    | zero => intro _; simp [nestL_nil]
    | succ n ih =>
      intro hn
      rw [nest_take _ (by omega)]
      have := ih (by omega)
      have := h n (by omega)
      omega
  have := hk l.length (Nat.le_refl _)
  rwa [List.take_length] at this
theorem maxH_small {l : List Bx} {K : Int} (hK : 0 ≤ K) (h : ∀ i, i < l.length → (kidAt l i).y + (kidAt l i).h ≤ K) : ∀ n, n ≤ l.length → 0 ≤ maxH l n ∧ maxH l n ≤ K
  | 0, _ => ⟨Int.le_refl _, hK⟩
  | n + 1, hn => by
    have h1 := maxH_small hK h n (by omega)
    have h2 := h n (by omega)
    rw [maxH]
    omega
theorem maxD_small {l : List Bx} {K : Int} (hK : 0 ≤ K) (h : ∀ i, i < l.length → (kidAt l i).d - (kidAt l i).y ≤ K) : ∀ n, n ≤ l.length → 0 ≤ maxD l n ∧ maxD l n ≤ K
  | 0, _ => ⟨Int.le_refl _, hK⟩
  | n + 1, hn => by
    have h1 := maxD_small hK h n (by omega)
    have h2 := h n (by omega)
    rw [maxD]
    omega
theorem small_w {l : List Bx} (hs : smallL l) (hn : l.length ≤ 100) {k : Nat} (hk : k ≤ l.length) : -104857600 ≤ sumE (fun j => (kidAt l j).w) k ∧ sumE (fun j => (kidAt l j).w) k ≤ 104857600 := by
  have h := sumE_bound (f := fun j => (kidAt l j).w) (b := 1048576) (by omega) k fun j hj => by
    have := (hs j (by omega)).1
    show -1048576 ≤ (kidAt l j).w ∧ (kidAt l j).w ≤ 1048576
    omega
  omega
theorem small_all {l : List Bx} (hs : smallL l) : allV l := fun i hi => (hs i hi).2.1
end Go.Proofs.Ytjckbdbjcgjcaaa
