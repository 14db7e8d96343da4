/- append of a slice of any length onto a list of the call's own. -/
import Derived.Test.YtjckbdbjcgjcaaaM1
namespace Go.Proofs.Ytjckbdbjcgjcaaa
open Go.RowKit
section
variable {P : Program} {w : World}
theorem own_ge {base n c size : Nat} {e : TypeId} {A : Option Addr} {xs : List Value} (h : w.ownsRow base e size (.slice A n c) n xs) : ∀ k, (Value.slice A n c).ownBlock = some k → base ≤ k ∧ k < w.heap.size := fun k hk => by
  rcases h.2 with ⟨h1, _⟩ | ⟨g, cap, cur, h1, h2, h3, _⟩
  · rw [h1] at hk; cases hk
  · rw [h1] at hk
    simp [Value.ownBlock] at hk
    have := (Array.getElem?_eq_some_iff.1 h3).1
    omega
theorem run_append_many (t ty e : TypeId) (i : TypeInfo) (z : Value) (size bytes : Nat) (ht : P.underlying t = some (.slice e)) (hi : P.info? e = some i) (hz : i.zero = some z) (hsize : i.size = size) (hby : i.bytes = bytes) (hzs : z.cells.size = size) (hsz : 0 < size)
    {base n c : Nat} {A : Option Addr} {xs : List Value} (hown : w.ownsRow base e size (.slice A n c) n xs) {A2 : Option Addr} {m c2 : Nat} (news : List Value) (hl : news.length = m * size)
    (hsrc : 0 < m → ∃ b off, A2 = some ⟨b, off, none⟩ ∧ ∀ j u, news[j]? = some u → w.cell? ⟨b, off + j, none⟩ = some u) (h1 : ∀ u ∈ news, u.oneCell' = true) (hn : n + m ≤ maxLen) (hb : (n + m) * bytes ≤ 140737488355328) (hbase : base ≤ w.heap.size) :
    ∃ A' c' w', (Builtin.append_ #[t, t] ty #[.slice A n c, .slice A2 m c2]).run P w = .ok (.slice A' (n + m) c') w' ∧ w'.ownsRow base e size (.slice A' (n + m) c') (n + m) (xs ++ news) ∧ Below base w w' := by
  have fin : ∀ ad : Addr, (∀ j u, news[j]? = some u → w.cell? (ad.add j) = some u) → ∃ A' c' w', (Builtin.append_ #[t, t] ty #[.slice A n c, .slice (some ad) m c2]).run P w = .ok (.slice A' (n + m) c') w' ∧ w'.ownsRow base e size (.slice A' (n + m) c') (n + m) (xs ++ news) ∧ Below base w w' := fun ad hc => by
    obtain ⟨v', w', hrun, hown', hgrow, hnil, hat⟩ := run_append_own_at (P := P) (w := w) base t ty e i z size bytes ht hi hz hsize hby hzs hsz _ n xs hown ad m c2 news hl hc h1 hn hb hbase
    have hbel : Below base w w' := (Below.refl _ _).grown hgrow hbase (fun k hk => (own_ge hown k hk).1)
    have h2 := hown'.2
    rcases h2 with ⟨hv, h0'⟩ | ⟨g', cap, cur, hv, _⟩
    · subst hv
      rw [h0'] at hown' ⊢
      exact ⟨none, 0, w', hrun, hown', hbel⟩
    · subst hv
      exact ⟨_, _, w', hrun, hown', hbel⟩
  by_cases h0 : 0 < m
  · obtain ⟨b, off, rfl, hc⟩ := hsrc h0
    exact fin _ fun j u hu => by rw [add_at]; exact hc j u hu
  · obtain rfl : m = 0 := by omega
    have hnil : news = [] := List.eq_nil_of_length_eq_zero (by simpa using hl)
    subst hnil
    rcases A2 with _ | ad
    · refine ⟨A, c, w, ?_, by simpa using hown, Below.refl _ _⟩
      rcases hown.2 with ⟨hv, _⟩ | ⟨g, cap, cur, hv, hg, hh, hle, _⟩
      · cases hv
        simp [Builtin.append_, run_underlying ht, sizeOf, typeInfo, hi, Builtin.lenOf, Builtin.firstCells]
      · injection hv with hv1 hv2 hv3
        subst hv1 hv3
        simp [Builtin.append_, run_underlying ht, sizeOf, typeInfo, hi, Builtin.lenOf, Builtin.firstCells, storeCells, hle]
    · exact fin ad fun j u hu => by simp at hu
theorem step_append_many {ops : Array Oper} {o : Oper} {a : Act} {K : Act → World → Prop} {Q : Exit → Act → World → Prop} {E : Prop} (hgd : o.guard = none) (s x : Operand) (t e : TypeId)
    (ho : o.op = .call { callee := .builtin .append, args := #[s, x], argTypes := #[t, t] }) (i : TypeInfo) (z : Value) (size bytes : Nat) (ht : P.underlying t = some (.slice e)) (hi : P.info? e = some i) (hz : i.zero = some z) (hsize : i.size = size) (hby : i.bytes = bytes) (hzs : z.cells.size = size) (hsz : 0 < size)
    {base n c : Nat} {A : Option Addr} {xs : List Value} (hs : a.eval s = .slice A n c) (hown : w.ownsRow base e size (.slice A n c) n xs) {A2 : Option Addr} {m c2 : Nat} (hx : a.eval x = .slice A2 m c2) (news : List Value) (hl : news.length = m * size)
    (hsrc : 0 < m → ∃ b off, A2 = some ⟨b, off, none⟩ ∧ ∀ j u, news[j]? = some u → w.cell? ⟨b, off + j, none⟩ = some u) (h1 : ∀ u ∈ news, u.oneCell' = true) (hn : n + m ≤ maxLen) (hb : (n + m) * bytes ≤ 140737488355328) (hbase : base ≤ w.heap.size)
    (h : ∀ A' c' w', w'.ownsRow base e size (.slice A' (n + m) c') (n + m) (xs ++ news) → Below base w w' → K (a.put o.dst (.slice A' (n + m) c')) w') :
    if Region.wanted o (yielded ops a.tmps) = true then Oper.wp P o a w K Q else E := by
  have hw : Region.wanted o (yielded ops a.tmps) = true := by simp [Region.wanted, hgd]
  rw [if_pos hw]
  obtain ⟨A', c', w', hrun, hown', hbel⟩ := run_append_many (P := P) (w := w) t o.type e i z size bytes ht hi hz hsize hby hzs hsz hown news hl hsrc h1 hn hb hbase (c2 := c2)
  unfold Oper.wp execOp
  simp only [ho, resolve, invoke, builtin, Sem.run_bind, Sem.run_pure, Result.andThen_ok, List.map_toArray, List.map_cons, List.map_nil, hs, hx, hrun]
  exact h _ _ w' hown' hbel
end
end Go.Proofs.Ytjckbdbjcgjcaaa
