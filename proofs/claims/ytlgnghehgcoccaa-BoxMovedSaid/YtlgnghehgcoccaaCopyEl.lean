/- copy of elements of any size; append of one element, and what it leaves alone. -/
import Derived.Laws.CopyOwn
import Derived.Test.YtlgnghehgcoccaaAppEl
namespace Go.Proofs.Ytlgnghehgcoccaa
open Go.RowKit
section
variable {P : Program} {w : World}
theorem run_copy_el (dT sT ty elem : TypeId) (g o dLen dCap : Nat) (a : Addr) (sLen sCap : Nat) (cur : Array Value) (t : TypeId) (cs : List Value) (size : Nat)
    (hu : P.underlying dT = some (.slice elem)) (hs : (P.info? elem).map (·.size) = some size)
    (hg : w.heap[g]? = some (.cells cur t (0, 0))) (hn : cs.length = Nat.min sLen dLen * size)
    (hsrc : ∀ j v, cs[j]? = some v → w.cell? (a.add j) = some v) (hfit : o + cs.length ≤ cur.size) (h1 : ∀ v ∈ cs, v.oneCell' = true) :
    (Builtin.copy_ #[dT, sT] ty #[.slice (some ⟨g, o, none⟩) dLen dCap, .slice (some a) sLen sCap]).run P w =
      .ok (goInt (Nat.min sLen dLen)) (w.setRow g (cur.toList.take o ++ cs ++ cur.toList.drop (o + cs.length)).toArray) := by
  have hl := run_loadCells_list (P := P) w a cs hsrc
  have hst := run_storeCells_at P g o t cs 0 cur w hg (by simpa using hfit) h1
  cases hq : P.info? elem with
  | none => simp [hq] at hs
  | some i =>
    have hi : i.size = size := by simpa [hq] using hs
    simp [Builtin.copy_, run_underlying hu, Builtin.lenOf, Builtin.firstCells, sizeOf, typeInfo, hq, hi, ← hn, hl, hst]
theorem wpList_copy_el {ops : Array Oper} {rest : List Oper} {o : Oper} {a : Act} {Q : Exit → Act → World → Prop} (hgd : o.guard = none) (d s : Operand) (dT sT : TypeId)
    (ho : o.op = .call { callee := .builtin .copy, args := #[d, s], argTypes := #[dT, sT] }) (elem : TypeId) (size : Nat) (hu : P.underlying dT = some (.slice elem)) (hsz : (P.info? elem).map (·.size) = some size)
    (g off dLen dCap : Nat) (ad : Addr) (sLen sCap : Nat) (hd : a.eval d = .slice (some ⟨g, off, none⟩) dLen dCap) (hs : a.eval s = .slice (some ad) sLen sCap)
    (cur : Array Value) (t : TypeId) (hg : w.heap[g]? = some (.cells cur t (0, 0))) (cs : List Value) (hn : cs.length = Nat.min sLen dLen * size)
    (hsrc : ∀ j v, cs[j]? = some v → w.cell? (ad.add j) = some v) (hfit : off + cs.length ≤ cur.size) (h1 : ∀ v ∈ cs, v.oneCell' = true)
    (h : wpList P ops Q rest (a.put o.dst (goInt (Nat.min sLen dLen))) (w.setRow g (cur.toList.take off ++ (cs ++ cur.toList.drop (off + cs.length))).toArray)) : wpList P ops Q (o :: rest) a w := by
  refine wpList_plain hgd fun K hK => ?_
  have hrun := run_copy_el (P := P) (w := w) dT sT o.type elem g off dLen dCap ad sLen sCap cur t cs size hu hsz hg hn hsrc hfit h1
  unfold Oper.wp
  simp only [execOp, ho, resolve, invoke, builtin, Sem.run_bind, Sem.run_pure, Result.andThen_ok, List.map_toArray, List.map_cons, List.map_nil, hd, hs, hrun]
  rw [List.append_assoc]
  exact hK _ _ h
/-- All blocks that were there, but the row's, are as they were. -/
structure Gr (g : Nat) (w w' : World) : Prop where
  os : w'.os = w.os
  tape : w'.tape = w.tape
  output : w'.output = w.output
  size : w.heap.size ≤ w'.heap.size
  block : ∀ k, k < w.heap.size → k ≠ g → w'.heap[k]? = w.heap[k]?
theorem Gr.refl (g : Nat) (w : World) : Gr g w w := ⟨rfl, rfl, rfl, Nat.le_refl _, fun _ _ _ => rfl⟩
theorem Gr.trans {g g' : Nat} {a b c : World} (h : Gr g a b) (k : Gr g' b c) (hg : g' = g ∨ a.heap.size ≤ g') : Gr g a c :=
  ⟨k.os.trans h.os, k.tape.trans h.tape, k.output.trans h.output, Nat.le_trans h.size k.size, fun x hx hn => (k.block x (Nat.lt_of_lt_of_le hx h.size) (by omega)).trans (h.block x hx hn)⟩
theorem gr_alloc (g : Nat) (w : World) (o : Obj) : Gr g w (w.alloc o) := by
  have hb : Below w.heap.size w (w.alloc o) := (Below.refl _ w).alloc (Nat.le_refl _) _
  exact ⟨hb.os, hb.tape, hb.output, hb.size, fun k hk _ => hb.block k hk⟩
theorem Gr.below {g B : Nat} {a w w' : World} (h : Gr g w w') (hb : Below B a w) (hB : B ≤ w.heap.size) (hg : B ≤ g) : Below B a w' :=
  hb.trans ⟨h.os, h.tape, h.output, h.size, fun k hk => h.block k (by omega) (by omega)⟩
theorem run_append_gr (t ty e : TypeId) (i : TypeInfo) (z : Value) (size bytes : Nat) (ht : P.underlying t = some (.slice e)) (hi : P.info? e = some i) (hz : i.zero = some z) (hsize : i.size = size) (hby : i.bytes = bytes) (hzs : z.cells.size = size) (hsz : 0 < size)
    {base c n gs : Nat} {xs : List Value} (hown : w.ownsRow base e size (.slice (some ⟨gs, 0, none⟩) n c) n xs) {g c1 : Nat} {news : Array Value} (hg : w.heap[g]? = some (.cells news e (0, 0))) (hl : news.size = size) (h1 : ∀ u ∈ news.toList, u.oneCell' = true) (hn : n + 1 ≤ maxLen) (hb : (n + 1) * bytes ≤ 140737488355328) (hbase : base ≤ w.heap.size) :
    ∃ g' c' w', (Builtin.append_ #[t, t] ty #[.slice (some ⟨gs, 0, none⟩) n c, .slice (some ⟨g, 0, none⟩) 1 c1]).run P w = .ok (.slice (some ⟨g', 0, none⟩) (n + 1) c') w' ∧ w'.ownsRow base e size (.slice (some ⟨g', 0, none⟩) (n + 1) c') (n + 1) (xs ++ news.toList) ∧ Gr gs w w' ∧ (g' = gs ∨ w.heap.size ≤ g') := by
  obtain ⟨v', w', hrun, hown', hgrow, hx1, hx2⟩ := run_append_own_at (P := P) (w := w) base t ty e i z size bytes ht hi hz hsize hby hzs hsz _ n xs hown ⟨g, 0, none⟩ 1 c1 news.toList (by simp [hl]) (fun j u hu => by
      rw [Array.getElem?_toList] at hu
      have : (⟨g, 0, none⟩ : Addr).add j = ⟨g, j, none⟩ := by
        unfold Addr.add
        by_cases h : j = 0
        · subst h; simp
        · simp [h]
      rw [this]
      exact (cell_of_row w g j news e (0, 0) hg).trans hu) h1 hn hb hbase
  obtain ⟨g', cap', hv, _, _⟩ := hown'.form (by omega)
  subst hv
  refine ⟨g', cap', w', hrun, hown', ⟨hgrow.os, hgrow.tape, hgrow.output, hgrow.size, fun k hk hne => hgrow.block k hk (by simp [Value.ownBlock]; omega)⟩, ?_⟩
  simp [Value.ownBlock] at hx2
  omega
theorem wpList_append_gr {ops : Array Oper} {rest : List Oper} {o : Oper} {a : Act} {Q : Exit → Act → World → Prop} (hgd : o.guard = none) (s x : Operand) (t e : TypeId)
    (ho : o.op = .call { callee := .builtin .append, args := #[s, x], argTypes := #[t, t] }) (i : TypeInfo) (z : Value) (size bytes : Nat) (ht : P.underlying t = some (.slice e)) (hi : P.info? e = some i) (hz : i.zero = some z) (hsize : i.size = size) (hby : i.bytes = bytes) (hzs : z.cells.size = size) (hsz : 0 < size)
    {base c n gs : Nat} {xs : List Value} (hs : a.eval s = .slice (some ⟨gs, 0, none⟩) n c) (hown : w.ownsRow base e size (.slice (some ⟨gs, 0, none⟩) n c) n xs) {g c1 : Nat} {news : Array Value} (hx : a.eval x = .slice (some ⟨g, 0, none⟩) 1 c1) (hg : w.heap[g]? = some (.cells news e (0, 0))) (hl : news.size = size) (h1 : ∀ u ∈ news.toList, u.oneCell' = true) (hn : n + 1 ≤ maxLen) (hb : (n + 1) * bytes ≤ 140737488355328) (hbase : base ≤ w.heap.size)
    (h : ∀ g' c' w', w'.ownsRow base e size (.slice (some ⟨g', 0, none⟩) (n + 1) c') (n + 1) (xs ++ news.toList) → Gr gs w w' → (g' = gs ∨ w.heap.size ≤ g') → wpList P ops Q rest (a.put o.dst (.slice (some ⟨g', 0, none⟩) (n + 1) c')) w') : wpList P ops Q (o :: rest) a w := by
  refine wpList_plain hgd fun K hK => ?_
  obtain ⟨g', c', w', hrun, h2, h3, h4⟩ := run_append_gr (P := P) t o.type e i z size bytes ht hi hz hsize hby hzs hsz hown hg hl h1 hn hb hbase (c1 := c1)
  unfold Oper.wp execOp
  simp only [ho, resolve, invoke, builtin, Sem.run_bind, Sem.run_pure, Result.andThen_ok, List.map_toArray, List.map_cons, List.map_nil, hs, hx, hrun]
  exact hK _ _ (h g' c' w' h2 h3 h4)
end
end Go.Proofs.Ytlgnghehgcoccaa
