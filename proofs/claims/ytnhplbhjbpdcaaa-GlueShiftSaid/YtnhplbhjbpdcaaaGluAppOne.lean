/- append of one number onto a list of the call's own. -/
import Derived.Test.YtnhplbhjbpdcaaaGluApp
namespace Go.Proofs.Ytnhplbhjbpdcaaa
open Go.RowKit
/-- The slice A, of l.length numbers, is the call's own from block base on, and holds l. -/
def Owns (w : World) (base : Nat) (e : TypeId) (A : Option Addr) (c : Nat) (l : List Int) : Prop := w.ownsRow base e 1 (.slice A l.length c) l.length (l.map (Value.int .i64))
section
variable {P : Program} {w : World}
theorem Owns.ints {base c : Nat} {e : TypeId} {A : Option Addr} {l : List Int} (h : Owns w base e A c l) : Ints w w.heap.size A l := (own_ints h).2
theorem Owns.nil (w : World) (base : Nat) (e : TypeId) : Owns w base e none 0 [] := World.ownsRow_nil _ _ _ _
theorem Owns.alloc {base c : Nat} {e : TypeId} {A : Option Addr} {l : List Int} (h : Owns w base e A c l) (o : Obj) : Owns (w.alloc o) base e A c l := World.ownsRow.alloc h o
theorem Owns.below {base c : Nat} {e : TypeId} {A : Option Addr} {l : List Int} {w' : World} (h : Owns w base e A c l) (hb : Below w.heap.size w w') : Owns w' base e A c l := by
  obtain ⟨h1, h2⟩ := h
  refine ⟨h1, ?_⟩
  rcases h2 with h2 | ⟨g, cap, cur, hv, hg, hh, r⟩
  · exact Or.inl h2
  · exact Or.inr ⟨g, cap, cur, hv, hg, by rw [hb.block g (Array.getElem?_eq_some_iff.1 hh).1]; exact hh, r⟩
theorem Owns.one (w : World) (e : TypeId) (z : Int) : Owns (w.alloc (.cells #[.int .i64 z] e)) w.heap.size e (some ⟨w.heap.size, 0, none⟩) 1 [z] :=
  ⟨rfl, .inr ⟨w.heap.size, 1, #[.int .i64 z], rfl, Nat.le_refl _, heap_alloc_new w _, Nat.le_refl _, by unfold maxLen; omega, rfl, rfl⟩⟩
theorem Owns.mono {base base' c : Nat} {e : TypeId} {A : Option Addr} {l : List Int} (h : Owns w base e A c l) (hb : base' ≤ base) : Owns w base' e A c l := by
  obtain ⟨h1, h2⟩ := h
  refine ⟨h1, ?_⟩
  rcases h2 with h2 | ⟨g, cap, cur, hv, hg, r⟩
  · exact Or.inl h2
  · exact Or.inr ⟨g, cap, cur, hv, by omega, r⟩
theorem wpList_append_one {ops : Array Oper} {rest : List Oper} {o : Oper} {a : Act} {Q : Exit → Act → World → Prop} (hgd : o.guard = none) (s x : Operand) (t e : TypeId)
    (ho : o.op = .call { callee := .builtin .append, args := #[s, x], argTypes := #[t, t] }) (i : TypeInfo) (ht : P.underlying t = some (.slice e)) (hi : P.info? e = some i) (hz : i.zero = some (.int .i64 0)) (hsize : i.size = 1) (hby : i.bytes = 8)
    {base c n : Nat} {A : Option Addr} {l : List Int} (hn : n = l.length) (hs : a.eval s = .slice A n c) (hown : Owns w base e A c l) {g : Nat} {z : Int} (hx : a.eval x = .slice (some ⟨g, 0, none⟩) 1 1) (hg : w.heap[g]? = some (.cells #[.int .i64 z] e (0, 0)))
    (hl : l.length ≤ 1000) (hbase : base ≤ w.heap.size)
    (h : ∀ A' c' w', Owns w' base e A' c' (l ++ [z]) → Below base w w' → wpList P ops Q rest (a.put o.dst (.slice A' (n + 1) c')) w') : wpList P ops Q (o :: rest) a w := by
  subst hn
  have hc : w.cell? ⟨g, 0, none⟩ = some (.int .i64 z) := cell_of_row w g 0 #[.int .i64 z] e (0, 0) hg
  refine wpList_append_own _ hgd s x t ho base e i (.int .i64 0) 1 8 ht hi hz hsize hby rfl (by omega) _ _ _ hs hown ⟨g, 0, none⟩ 1 1 [.int .i64 z] hx rfl (fun j u hu => ?_) (fun u hu => ?_) (by unfold maxLen; omega) (by omega) hbase ?_
  · match j, hu with
    | 0, hu => simp at hu; subst hu; simpa [Addr.add] using hc
  · simp at hu; subst hu; rfl
  · intro v' w' hown' hgrow _
    obtain ⟨g', cap', hv, _, _⟩ := hown'.form (by omega)
    subst hv
    refine h _ _ w' ?_ ?_
    · unfold Owns
      rw [List.length_append, List.map_append]
      exact hown'
    · refine (Below.refl _ _).grown hgrow hbase (fun k hk => ?_)
      rcases hown.2 with ⟨h1, _⟩ | ⟨g2, cap, cur, h1, h2, _⟩
      · rw [h1] at hk; simp [Value.ownBlock] at hk
      · rw [h1] at hk; simp [Value.ownBlock] at hk; omega
end
end Go.Proofs.Ytnhplbhjbpdcaaa
