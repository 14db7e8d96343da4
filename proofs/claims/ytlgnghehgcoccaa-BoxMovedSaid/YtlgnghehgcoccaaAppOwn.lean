/- append of one element onto a list of the call's own, in a region that draws its order: what it leaves of the rest. -/
import Derived.Test.YtlgnghehgcoccaaAppEl
namespace Go.Proofs.Ytlgnghehgcoccaa
open Go.RowKit
section
variable {P : Program} {w : World}
/-- append of one element onto a list of the call's own, as one step of a region that draws its order: what the row's growth leaves. -/
theorem step_append_own {ops : Array Oper} {o : Oper} {a : Act} {K : Act → World → Prop} {Q : Exit → Act → World → Prop} {E : Prop} (hgd : o.guard = none) (s x : Operand) (t e : TypeId)
    (ho : o.op = .call { callee := .builtin .append, args := #[s, x], argTypes := #[t, t] }) (i : TypeInfo) (z : Value) (size bytes : Nat) (ht : P.underlying t = some (.slice e)) (hi : P.info? e = some i) (hz : i.zero = some z) (hsize : i.size = size) (hby : i.bytes = bytes) (hzs : z.cells.size = size) (hsz : 0 < size)
    {base c n : Nat} {A : Option Addr} {xs : List Value} (hs : a.eval s = .slice A n c) (hown : w.ownsRow base e size (.slice A n c) n xs) {g c1 : Nat} {news : Array Value} (hx : a.eval x = .slice (some ⟨g, 0, none⟩) 1 c1) (hg : w.heap[g]? = some (.cells news e (0, 0))) (hl : news.size = size) (h1 : ∀ u ∈ news.toList, u.oneCell' = true) (hn : n + 1 ≤ maxLen) (hb : (n + 1) * bytes ≤ 140737488355328) (hbase : base ≤ w.heap.size)
    (h : ∀ A' c' w', w'.ownsRow base e size (.slice A' (n + 1) c') (n + 1) (xs ++ news.toList) → w.grownBy w' (Value.slice A n c).ownBlock → ((Value.slice A' (n + 1) c').ownBlock = (Value.slice A n c).ownBlock ∨ (Value.slice A' (n + 1) c').ownBlock = some w.heap.size) → K (a.put o.dst (.slice A' (n + 1) c')) w') :
    if Region.wanted o (yielded ops a.tmps) = true then Oper.wp P o a w K Q else E := by
  have hw : Region.wanted o (yielded ops a.tmps) = true := by simp [Region.wanted, hgd]
  rw [if_pos hw]
  obtain ⟨v', w', hrun, hown', hgrow, hx1, hx2⟩ := run_append_own_at (P := P) (w := w) base t o.type e i z size bytes ht hi hz hsize hby hzs hsz _ n xs hown ⟨g, 0, none⟩ 1 c1 news.toList (by simp [hl]) (fun j u hu => by
      rw [Array.getElem?_toList] at hu
      have : (⟨g, 0, none⟩ : Addr).add j = ⟨g, j, none⟩ := by
        unfold Addr.add
        by_cases h : j = 0
        · subst h; simp
        · simp [h]
      rw [this]
      exact (cell_of_row w g j news e (0, 0) hg).trans hu) h1 hn hb hbase
  obtain ⟨g', cap', hv, _, _⟩ := hown'.form (by omega)
  subst hv
  unfold Oper.wp execOp
  simp only [ho, resolve, invoke, builtin, Sem.run_bind, Sem.run_pure, Result.andThen_ok, List.map_toArray, List.map_cons, List.map_nil, hs, hx, hrun]
  exact h _ _ w' hown' hgrow hx2
end
end Go.Proofs.Ytlgnghehgcoccaa
