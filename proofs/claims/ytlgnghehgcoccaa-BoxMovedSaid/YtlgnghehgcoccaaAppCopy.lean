/- append of a slice that came in onto a new empty list, whatever its elements are. -/
import Derived.Maps.AppendAt
import Derived.Deep.AppendLies
import Derived.OwnWalk
import Derived.Lib.Hide
import Derived.Below
import Derived.WalkKit
namespace Go.Proofs.Ytlgnghehgcoccaa
open Go.RowKit
section
variable {P : Program} {w : World}
theorem add_at (b off j : Nat) : (⟨b, off, none⟩ : Addr).add j = ⟨b, off + j, none⟩ := by
  unfold Addr.add
  by_cases h : j = 0
  · subst h; simp
  · simp [h]
theorem own_empty_any {g size : Nat} {e : TypeId} (hg : w.heap[g]? = some (.cells #[] e (0, 0))) : w.ownsRow g e size (.slice (some ⟨g, 0, none⟩) 0 0) 0 [] :=
  ⟨by simp, .inr ⟨g, 0, #[], rfl, Nat.le_refl _, hg, Nat.le_refl _, Nat.zero_le _, by simp, by simp⟩⟩
/-- A slice A of n elements is a copy in a block of its own, from g on, that holds news. -/
def Copied (g : Nat) (e : TypeId) (news : List Value) (n : Nat) (A : Option Addr) (w' : World) : Prop :=
  0 < n → ∃ (b : Nat) (cur : Array Value), A = some ⟨b, 0, none⟩ ∧ g ≤ b ∧ w'.heap[b]? = some (.cells cur e (0, 0)) ∧ ∀ (j : Nat) (u : Value), news[j]? = some u → cur[j]? = some u
theorem run_append_copy (t ty e : TypeId) (i : TypeInfo) (z : Value) (size bytes : Nat) (ht : P.underlying t = some (.slice e)) (hi : P.info? e = some i) (hz : i.zero = some z) (hsize : i.size = size) (hby : i.bytes = bytes) (hzs : z.cells.size = size) (hsz : 0 < size)
    {g : Nat} (hg : w.heap[g]? = some (.cells #[] e (0, 0))) {A : Option Addr} {n c : Nat} (news : List Value) (hl : news.length = n * size)
    (hsrc : 0 < n → ∃ b off, A = some ⟨b, off, none⟩ ∧ ∀ j u, news[j]? = some u → w.cell? ⟨b, off + j, none⟩ = some u) (h1 : ∀ u ∈ news, u.oneCell' = true) (hn : n ≤ maxLen) (hb : n * bytes ≤ 140737488355328) :
    ∃ A' c' w', (Builtin.append_ #[t, t] ty #[.slice (some ⟨g, 0, none⟩) 0 0, .slice A n c]).run P w = .ok (.slice A' n c') w' ∧ Copied g e news n A' w' ∧ Below g w w' := by
  have hlt : g < w.heap.size := (Array.getElem?_eq_some_iff.1 hg).1
  by_cases h0 : 0 < n
  · obtain ⟨b, off, rfl, hc⟩ := hsrc h0
    obtain ⟨v', w', hrun, hown, hgrow, _, hat⟩ := run_append_own_at (P := P) (w := w) g t ty e i z size bytes ht hi hz hsize hby hzs hsz _ 0 [] (own_empty_any hg) ⟨b, off, none⟩ n c news hl
      (fun j u hu => by rw [add_at]; exact hc j u hu) h1 (by omega) (by simpa using hb) (by omega)
    obtain ⟨g', cap', hv, _, _⟩ := hown.form (by omega)
    subst hv
    rw [Nat.zero_add, List.nil_append] at hown
    rw [Nat.zero_add] at hrun
    refine ⟨_, _, w', hrun, fun _ => ?_, (Below.refl _ _).grown hgrow (by omega) (fun k hk => by simp [Value.ownBlock] at hk; omega)⟩
    rcases hown.2 with ⟨h, _⟩ | ⟨g2, cap2, cur, hv, hg2, hh, _, _, hcs, htake⟩
    · cases h
    · injection hv with hv1 _ _
      injection hv1 with hv2
      injection hv2 with hv3
      subst hv3
      refine ⟨g', cur, rfl, hg2, hh, fun j u hu => ?_⟩
      rw [← htake] at hu
      rw [List.getElem?_take] at hu
      split at hu
      · rw [Array.getElem?_toList] at hu
        exact hu
      · cases hu
  · obtain rfl : n = 0 := by omega
    have hnil : news = [] := List.eq_nil_of_length_eq_zero (by simpa using hl)
    subst hnil
    rcases A with _ | ad
    · refine ⟨some ⟨g, 0, none⟩, 0, w, ?_, fun h => absurd h (Nat.lt_irrefl _), Below.refl _ _⟩
      simp [Builtin.append_, run_underlying ht, sizeOf, typeInfo, hi, Builtin.lenOf, Builtin.firstCells, storeCells]
    · obtain ⟨v', w', hrun, hown, hgrow, hnil, hat⟩ := run_append_own_at (P := P) (w := w) g t ty e i z size bytes ht hi hz hsize hby hzs hsz _ 0 [] (own_empty_any hg) ad 0 c [] (by simp) (fun j u hu => by simp at hu) (fun u hu => by simp at hu) (by unfold maxLen; omega) (by simp) (by omega)
      rcases hown.2 with ⟨rfl, _⟩ | ⟨g', cap, cur, rfl, _⟩
      · have := (hnil.1 rfl).1
        cases this
      · exact ⟨_, _, w', hrun, fun h => absurd h (Nat.lt_irrefl _), (Below.refl _ _).grown hgrow (by omega) (fun k hk => by simp [Value.ownBlock] at hk; omega)⟩
theorem wpList_append_copy {ops : Array Oper} {rest : List Oper} {o : Oper} {a : Act} {Q : Exit → Act → World → Prop} (hgd : o.guard = none) (s x : Operand) (t e : TypeId)
    (ho : o.op = .call { callee := .builtin .append, args := #[s, x], argTypes := #[t, t] }) (i : TypeInfo) (z : Value) (size bytes : Nat) (ht : P.underlying t = some (.slice e)) (hi : P.info? e = some i) (hz : i.zero = some z) (hsize : i.size = size) (hby : i.bytes = bytes) (hzs : z.cells.size = size) (hsz : 0 < size)
    {g : Nat} {A : Option Addr} {n c : Nat} (hs : a.eval s = .slice (some ⟨g, 0, none⟩) 0 0) (hx : a.eval x = .slice A n c) (hg : w.heap[g]? = some (.cells #[] e (0, 0))) (news : List Value) (hl : news.length = n * size)
    (hsrc : 0 < n → ∃ b off, A = some ⟨b, off, none⟩ ∧ ∀ j u, news[j]? = some u → w.cell? ⟨b, off + j, none⟩ = some u) (h1 : ∀ u ∈ news, u.oneCell' = true) (hn : n ≤ maxLen) (hb : n * bytes ≤ 140737488355328)
    (h : ∀ A' c' w', Copied g e news n A' w' → Below g w w' → wpList P ops Q rest (a.put o.dst (.slice A' n c')) w') : wpList P ops Q (o :: rest) a w := by
  refine wpList_plain hgd fun K hK => ?_
  obtain ⟨A', c', w', hrun, h2, h3⟩ := run_append_copy (P := P) t o.type e i z size bytes ht hi hz hsize hby hzs hsz hg news hl hsrc h1 hn hb (c := c)
  unfold Oper.wp execOp
  simp only [ho, resolve, invoke, builtin, Sem.run_bind, Sem.run_pure, Result.andThen_ok, List.map_toArray, List.map_cons, List.map_nil, hs, hx, hrun]
  exact hK _ _ (h A' c' w' h2 h3)
end
end Go.Proofs.Ytlgnghehgcoccaa
