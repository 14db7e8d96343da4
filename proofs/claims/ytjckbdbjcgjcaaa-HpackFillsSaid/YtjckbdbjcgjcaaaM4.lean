/- Glue: appends. -/
import Derived.Test.YtjckbdbjcgjcaaaGluBase
import Derived.Maps.AppendAt
import Derived.Deep.AppendLies
import Derived.OwnWalk
import Derived.Lib.Hide
/- append of numbers that came in onto a new empty list. -/
namespace Go.Proofs.Ytjckbdbjcgjcaaa.Gu
open Go.RowKit
section
variable {P : Program} {w : World}
theorem own_empty {g : Nat} {e : TypeId} (hg : w.heap[g]? = some (.cells #[] e (0, 0))) : w.ownsRow g e 1 (.slice (some ⟨g, 0, none⟩) 0 0) 0 [] :=
  ⟨rfl, .inr ⟨g, 0, #[], rfl, Nat.le_refl _, hg, Nat.le_refl _, Nat.zero_le _, rfl, rfl⟩⟩
theorem own_ints {base n cap : Nat} {e : TypeId} {A : Option Addr} {l : List Int} (h : w.ownsRow base e 1 (.slice A n cap) n (l.map (Value.int .i64))) : n = l.length ∧ Ints w w.heap.size A l := by
  have hn : n = l.length := by have := h.1; simpa using this.symm
  refine ⟨hn, fun h0 => ?_⟩
  obtain ⟨g, cap', hv, _, hlt⟩ := h.form (by omega)
  have hA : A = some ⟨g, 0, none⟩ := by injection hv
  subst hA
  refine ⟨g, 0, rfl, hlt, fun k hk => ?_⟩
  have := h.cells (g := g) rfl k (.int .i64 (lAt l k)) (by
    rw [List.getElem?_map, List.getElem?_eq_getElem hk]
    unfold lAt
    simp [List.getD, hk])
  by_cases hk0 : k = 0
  · subst hk0; simpa [Addr.add] using this
  · simpa [Addr.add, hk0] using this
theorem run_append_empty (t ty e : TypeId) (i : TypeInfo) (ht : P.underlying t = some (.slice e)) (hi : P.info? e = some i) (hz : i.zero = some (.int .i64 0)) (hsize : i.size = 1) (hby : i.bytes = 8)
    {g : Nat} (hg : w.heap[g]? = some (.cells #[] e (0, 0))) {A : Option Addr} {l : List Int} {B c : Nat} (hI : Ints w B A l) (hl : l.length ≤ 1000) :
    ∃ A' c' w', (Builtin.append_ #[t, t] ty #[.slice (some ⟨g, 0, none⟩) 0 0, .slice A l.length c]).run P w = .ok (.slice A' l.length c') w' ∧ Ints w' w'.heap.size A' l ∧ Below g w w' := by
  have hlt : g < w.heap.size := (Array.getElem?_eq_some_iff.1 hg).1
  by_cases h0 : 0 < l.length
  · obtain ⟨b, off, rfl, hB, hc⟩ := hI h0
    obtain ⟨v', w', hrun, hown, hgrow, _, hat⟩ := run_append_own_at (P := P) (w := w) g t ty e i (.int .i64 0) 1 8 ht hi hz hsize hby rfl (by omega) _ 0 [] (own_empty hg) ⟨b, off, none⟩ l.length c (l.map (Value.int .i64)) (by simp)
      (fun j u hu => by
        rw [List.getElem?_map] at hu
        obtain ⟨x, hx, rfl⟩ := Option.map_eq_some_iff.1 hu
        have hj : j < l.length := (List.getElem?_eq_some_iff.1 hx).1
        have e : lAt l j = x := by unfold lAt; simp [List.getD, hx]
        rw [← e]
        by_cases hj0 : j = 0
        · subst hj0; simpa [Addr.add] using hc 0 hj
        · simpa [Addr.add, hj0] using hc j hj)
      (fun u hu => by obtain ⟨x, _, rfl⟩ := List.mem_map.1 hu; rfl) (by unfold maxLen; omega) (by omega) (by omega)
    obtain ⟨g', cap', hv, _, _⟩ := hown.form (by omega)
    subst hv
    rw [Nat.zero_add, List.nil_append] at hown
    rw [Nat.zero_add] at hrun
    exact ⟨_, _, w', hrun, (own_ints hown).2, (Below.refl _ _).grown hgrow (by omega) (fun k hk => by simp [Value.ownBlock] at hk; omega)⟩
  · have hl0 : l = [] := List.eq_nil_of_length_eq_zero (by omega)
    subst hl0
    rcases A with _ | ad
    · refine ⟨some ⟨g, 0, none⟩, 0, w, ?_, fun h => absurd h (by simp), Below.refl _ _⟩
      simp [Builtin.append_, run_underlying ht, sizeOf, typeInfo, hi, Builtin.lenOf, Builtin.firstCells, storeCells]
    · obtain ⟨v', w', hrun, hown, hgrow, hnil, hat⟩ := run_append_own_at (P := P) (w := w) g t ty e i (.int .i64 0) 1 8 ht hi hz hsize hby rfl (by omega) _ 0 [] (own_empty hg) ad 0 c [] rfl (fun j u hu => by simp at hu) (fun u hu => by simp at hu) (by unfold maxLen; omega) (by omega) (by omega)
      rcases hown.2 with ⟨rfl, _⟩ | ⟨g', cap, cur, rfl, _⟩
      · have := (hnil.1 rfl).1
        cases this
      · exact ⟨_, _, w', hrun, fun h => absurd h (by simp), (Below.refl _ _).grown hgrow (by omega) (fun k hk => by simp [Value.ownBlock] at hk; omega)⟩
theorem step_append_empty {ops : Array Oper} {o : Oper} {a : Act} {K : Act → World → Prop} {Q : Exit → Act → World → Prop} {E : Prop} (hgd : o.guard = none) (s x : Operand) (t e : TypeId)
    (ho : o.op = .call { callee := .builtin .append, args := #[s, x], argTypes := #[t, t] }) (i : TypeInfo) (ht : P.underlying t = some (.slice e)) (hi : P.info? e = some i) (hz : i.zero = some (.int .i64 0)) (hsize : i.size = 1) (hby : i.bytes = 8)
    {g : Nat} {A : Option Addr} {l : List Int} {B c : Nat} (hs : a.eval s = .slice (some ⟨g, 0, none⟩) 0 0) (hx : a.eval x = .slice A l.length c) (hg : w.heap[g]? = some (.cells #[] e (0, 0))) (hI : Ints w B A l) (hl : l.length ≤ 1000)
    (h : ∀ A' c' w', Ints w' w'.heap.size A' l → Below g w w' → K (a.put o.dst (.slice A' l.length c')) w') :
    if Region.wanted o (yielded ops a.tmps) = true then Oper.wp P o a w K Q else E := by
  have hw : Region.wanted o (yielded ops a.tmps) = true := by simp [Region.wanted, hgd]
  rw [if_pos hw]
  obtain ⟨A', c', w', hrun, h2, h3⟩ := run_append_empty (P := P) t o.type e i ht hi hz hsize hby hg hI (c := c) hl
  unfold Oper.wp execOp
  simp only [ho, resolve, invoke, builtin, Sem.run_bind, Sem.run_pure, Result.andThen_ok, List.map_toArray, List.map_cons, List.map_nil, hs, hx, hrun]
  exact h A' c' w' h2 h3
end
end Go.Proofs.Ytjckbdbjcgjcaaa.Gu
/- append of one number onto a list of the call's own. -/
namespace Go.Proofs.Ytjckbdbjcgjcaaa.Gu
open Go.RowKit
/-- The slice A, of l.length numbers, is the call's own from block base on, and holds l. -/
def Owns (w : World) (base : Nat) (e : TypeId) (A : Option Addr) (c : Nat) (l : List Int) : Prop := w.ownsRow base e 1 (.slice A l.length c) l.length (l.map (Value.int .i64))
section
variable {P : Program} {w : World}
theorem Owns.ints {base c : Nat} {e : TypeId} {A : Option Addr} {l : List Int} (h : Owns w base e A c l) : Ints w w.heap.size A l := (own_ints h).2
theorem Owns.nil (w : World) (base : Nat) (e : TypeId) : Owns w base e none 0 [] := World.ownsRow_nil _ _ _ _
theorem Owns.alloc {base c : Nat} {e : TypeId} {A : Option Addr} {l : List Int} (h : Owns w base e A c l) (o : Obj) : Owns (w.alloc o) base e A c l := World.ownsRow.alloc h o
theorem Owns.below {base c : Nat} {e : TypeId} {A : Option Addr} {l : List Int} {w' : World} (h : Owns w base e A c l) (hb : Below w.heap.size w w') : Owns w' base e A c l := by
  obtain ⟨h1, h2⟩ := h
  refine ⟨h1, ?_⟩
  rcases h2 with h2 | ⟨g, cap, cur, hv, hg, hh, r⟩
  · exact Or.inl h2
  · exact Or.inr ⟨g, cap, cur, hv, hg, by rw [hb.block g (Array.getElem?_eq_some_iff.1 hh).1]; exact hh, r⟩
theorem Owns.one (w : World) (e : TypeId) (z : Int) : Owns (w.alloc (.cells #[.int .i64 z] e)) w.heap.size e (some ⟨w.heap.size, 0, none⟩) 1 [z] :=
  ⟨rfl, .inr ⟨w.heap.size, 1, #[.int .i64 z], rfl, Nat.le_refl _, heap_alloc_new w _, Nat.le_refl _, by unfold maxLen; omega, rfl, rfl⟩⟩
theorem Owns.mono {base base' c : Nat} {e : TypeId} {A : Option Addr} {l : List Int} (h : Owns w base e A c l) (hb : base' ≤ base) : Owns w base' e A c l := by
  obtain ⟨h1, h2⟩ := h
  refine ⟨h1, ?_⟩
  rcases h2 with h2 | ⟨g, cap, cur, hv, hg, r⟩
  · exact Or.inl h2
  · exact Or.inr ⟨g, cap, cur, hv, by omega, r⟩
theorem wpList_append_one {ops : Array Oper} {rest : List Oper} {o : Oper} {a : Act} {Q : Exit → Act → World → Prop} (hgd : o.guard = none) (s x : Operand) (t e : TypeId)
    (ho : o.op = .call { callee := .builtin .append, args := #[s, x], argTypes := #[t, t] }) (i : TypeInfo) (ht : P.underlying t = some (.slice e)) (hi : P.info? e = some i) (hz : i.zero = some (.int .i64 0)) (hsize : i.size = 1) (hby : i.bytes = 8)
    {base c n : Nat} {A : Option Addr} {l : List Int} (hn : n = l.length) (hs : a.eval s = .slice A n c) (hown : Owns w base e A c l) {g : Nat} {z : Int} (hx : a.eval x = .slice (some ⟨g, 0, none⟩) 1 1) (hg : w.heap[g]? = some (.cells #[.int .i64 z] e (0, 0)))
    (hl : l.length ≤ 1000) (hbase : base ≤ w.heap.size)
    (h : ∀ A' c' w', Owns w' base e A' c' (l ++ [z]) → Below base w w' → wpList P ops Q rest (a.put o.dst (.slice A' (n + 1) c')) w') : wpList P ops Q (o :: rest) a w := by
  subst hn
  have hc : w.cell? ⟨g, 0, none⟩ = some (.int .i64 z) := cell_of_row w g 0 #[.int .i64 z] e (0, 0) hg
  refine wpList_append_own _ hgd s x t ho base e i (.int .i64 0) 1 8 ht hi hz hsize hby rfl (by omega) _ _ _ hs hown ⟨g, 0, none⟩ 1 1 [.int .i64 z] hx rfl (fun j u hu => ?_) (fun u hu => ?_) (by unfold maxLen; omega) (by omega) hbase ?_
  · match j, hu with
    | 0, hu => simp at hu; subst hu; simpa [Addr.add] using hc
  · simp at hu; subst hu; rfl
  · intro v' w' hown' hgrow _
    obtain ⟨g', cap', hv, _, _⟩ := hown'.form (by omega)
    subst hv
    refine h _ _ w' ?_ ?_
    · unfold Owns
      rw [List.length_append, List.map_append]
      exact hown'
    · refine (Below.refl _ _).grown hgrow hbase (fun k hk => ?_)
      rcases hown.2 with ⟨h1, _⟩ | ⟨g2, cap, cur, h1, h2, _⟩
      · rw [h1] at hk; simp [Value.ownBlock] at hk
      · rw [h1] at hk; simp [Value.ownBlock] at hk; omega
end
end Go.Proofs.Ytjckbdbjcgjcaaa.Gu
