/- append of one element, whatever its cells are, onto a list of the call's own. -/
import Derived.Maps.AppendAt
import Derived.Deep.AppendLies
import Derived.OwnWalk
import Derived.Lib.Hide
import Derived.Below
import Derived.WalkKit
namespace Go.Proofs.Ytlgnghehgcoccaa
open Go.RowKit
section
variable {P : Program} {w : World}
/-- The first n elements of a list of the call's own. -/
theorem own_take {base n m c size : Nat} {e : TypeId} {A : Option Addr} {xs : List Value} (h : w.ownsRow base e size (.slice A n c) n xs) (hm : m ≤ n) (hA : A ≠ none) : w.ownsRow base e size (.slice A m c) m (xs.take (m * size)) := by
  obtain ⟨h1, h2⟩ := h
  have hmn : m * size ≤ n * size := Nat.mul_le_mul_right _ hm
  refine ⟨by rw [List.length_take, h1, Nat.min_eq_left hmn], ?_⟩
  rcases h2 with ⟨h2, _⟩ | ⟨g, cap, cur, hv, hg, hh, hc, hl, hs, ht⟩
  · injection h2 with h3
    exact absurd h3 hA
  · injection hv with h3 _ h4
    subst h3 h4
    exact .inr ⟨g, c, cur, rfl, hg, hh, by omega, hl, hs, by rw [← ht, List.take_take, Nat.min_eq_left hmn]⟩
theorem own_below {base n size : Nat} {e : TypeId} {v : Value} {xs : List Value} {w' : World} (h : w.ownsRow base e size v n xs) (hb : Below w.heap.size w w') : w'.ownsRow base e size v n xs := by
  obtain ⟨h1, h2⟩ := h
  refine ⟨h1, ?_⟩
  rcases h2 with h2 | ⟨g, cap, cur, hv, hg, hh, r⟩
  · exact Or.inl h2
  · exact Or.inr ⟨g, cap, cur, hv, hg, by rw [hb.block g (Array.getElem?_eq_some_iff.1 hh).1]; exact hh, r⟩
/-- Its cells. -/
theorem own_cell {base n c size : Nat} {e : TypeId} {A : Option Addr} {xs : List Value} (h : w.ownsRow base e size (.slice A n c) n xs) (h0 : 0 < n) : ∃ g, A = some ⟨g, 0, none⟩ ∧ base ≤ g ∧ g < w.heap.size ∧ n ≤ c ∧ ∀ k u, xs[k]? = some u → w.cell? ⟨g, k, none⟩ = some u := by
  obtain ⟨h1, h2⟩ := h
  rcases h2 with ⟨h2, h3⟩ | ⟨g, cap, cur, hv, hg, hh, hc, hl, hs, ht⟩
  · omega
  · injection hv with h3 _ h4
    subst h3 h4
    refine ⟨g, rfl, hg, (Array.getElem?_eq_some_iff.1 hh).1, hc, fun k u hu => ?_⟩
    rw [← ht, List.getElem?_take] at hu
    split at hu
    · rw [Array.getElem?_toList] at hu
      exact (cell_of_row w g k cur e (0, 0) hh).trans hu
    · cases hu
theorem own_one {g size : Nat} {e : TypeId} {news : Array Value} (hg : w.heap[g]? = some (.cells news e (0, 0))) (hs : news.size = size) : w.ownsRow g e size (.slice (some ⟨g, 0, none⟩) 1 1) 1 news.toList :=
  ⟨by simp [hs], .inr ⟨g, 1, news, rfl, Nat.le_refl _, hg, Nat.le_refl _, by unfold maxLen; omega, by omega, by
    rw [Nat.one_mul, ← hs]
    exact List.take_of_length_le (by simp)⟩⟩
theorem run_append_el (t ty e : TypeId) (i : TypeInfo) (z : Value) (size bytes : Nat) (ht : P.underlying t = some (.slice e)) (hi : P.info? e = some i) (hz : i.zero = some z) (hsize : i.size = size) (hby : i.bytes = bytes) (hzs : z.cells.size = size) (hsz : 0 < size)
    {base c n : Nat} {A : Option Addr} {xs : List Value} (hown : w.ownsRow base e size (.slice A n c) n xs) {g c1 : Nat} {news : Array Value} (hg : w.heap[g]? = some (.cells news e (0, 0))) (hl : news.size = size) (h1 : ∀ u ∈ news.toList, u.oneCell' = true) (hn : n + 1 ≤ maxLen) (hb : (n + 1) * bytes ≤ 140737488355328) (hbase : base ≤ w.heap.size) :
    ∃ A' c' w', (Builtin.append_ #[t, t] ty #[.slice A n c, .slice (some ⟨g, 0, none⟩) 1 c1]).run P w = .ok (.slice A' (n + 1) c') w' ∧ w'.ownsRow base e size (.slice A' (n + 1) c') (n + 1) (xs ++ news.toList) ∧ Below base w w' := by
  obtain ⟨v', w', hrun, hown', hgrow, _, _⟩ := run_append_own_at (P := P) (w := w) base t ty e i z size bytes ht hi hz hsize hby hzs hsz _ n xs hown ⟨g, 0, none⟩ 1 c1 news.toList (by simp [hl]) (fun j u hu => by
      rw [Array.getElem?_toList] at hu
      have : (⟨g, 0, none⟩ : Addr).add j = ⟨g, j, none⟩ := by
        unfold Addr.add
        by_cases h : j = 0
        · subst h; simp
        · simp [h]
      rw [this]
      exact (cell_of_row w g j news e (0, 0) hg).trans hu) h1 hn hb hbase
  obtain ⟨g', cap', hv, _, _⟩ := hown'.form (by omega)
  subst hv
  refine ⟨_, _, w', hrun, hown', (Below.refl _ _).grown hgrow hbase (fun k hk => ?_)⟩
  rcases hown.2 with ⟨h1, _⟩ | ⟨g2, cap, cur, h1, h2, _⟩
  · rw [h1] at hk; simp [Value.ownBlock] at hk
  · rw [h1] at hk; simp [Value.ownBlock] at hk; omega
theorem wpList_append_el {ops : Array Oper} {rest : List Oper} {o : Oper} {a : Act} {Q : Exit → Act → World → Prop} (hgd : o.guard = none) (s x : Operand) (t e : TypeId)
    (ho : o.op = .call { callee := .builtin .append, args := #[s, x], argTypes := #[t, t] }) (i : TypeInfo) (z : Value) (size bytes : Nat) (ht : P.underlying t = some (.slice e)) (hi : P.info? e = some i) (hz : i.zero = some z) (hsize : i.size = size) (hby : i.bytes = bytes) (hzs : z.cells.size = size) (hsz : 0 < size)
    {base c n : Nat} {A : Option Addr} {xs : List Value} (hs : a.eval s = .slice A n c) (hown : w.ownsRow base e size (.slice A n c) n xs) {g c1 : Nat} {news : Array Value} (hx : a.eval x = .slice (some ⟨g, 0, none⟩) 1 c1) (hg : w.heap[g]? = some (.cells news e (0, 0))) (hl : news.size = size) (h1 : ∀ u ∈ news.toList, u.oneCell' = true) (hn : n + 1 ≤ maxLen) (hb : (n + 1) * bytes ≤ 140737488355328) (hbase : base ≤ w.heap.size)
    (h : ∀ A' c' w', w'.ownsRow base e size (.slice A' (n + 1) c') (n + 1) (xs ++ news.toList) → Below base w w' → wpList P ops Q rest (a.put o.dst (.slice A' (n + 1) c')) w') : wpList P ops Q (o :: rest) a w := by
  refine wpList_plain hgd fun K hK => ?_
  obtain ⟨A', c', w', hrun, h2, h3⟩ := run_append_el (P := P) t o.type e i z size bytes ht hi hz hsize hby hzs hsz hown hg hl h1 hn hb hbase (c1 := c1)
  unfold Oper.wp execOp
  simp only [ho, resolve, invoke, builtin, Sem.run_bind, Sem.run_pure, Result.andThen_ok, List.map_toArray, List.map_cons, List.map_nil, hs, hx, hrun]
  exact hK _ _ (h A' c' w' h2 h3)
end
end Go.Proofs.Ytlgnghehgcoccaa
