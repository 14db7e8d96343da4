/- Loads and stores of whole structs, as one step. -/
import Derived.WalkKit
import Derived.Laws.CopyRow
import Derived.Laws.Cells
import Derived.Below
import Derived.OwnWalk
namespace Go.Proofs.Ytlgnghehgcoccaa
open Go.RowKit
/-- The next operation is a load of type ty: laid with `with_reducible refine at_load ty ?_`, it fails at all others, and changes nothing. -/
theorem at_load {P : Program} {ops : Array Oper} {rest : List Oper} {a : Act} {w : World} {Q : Exit → Act → World → Prop} {dst : Option Tmp} {p : Operand} {oty : TypeId} {pos : String} {af : Array Edge} {gd : Option (Nat × Bool)} (ty : TypeId)
    (h : wpList P ops Q ({ dst := dst, op := .load ty p, type := oty, pos := pos, after := af, guard := gd } :: rest) a w) :
    wpList P ops Q ({ dst := dst, op := .load ty p, type := oty, pos := pos, after := af, guard := gd } :: rest) a w := h
/-- A store of type ty. -/
theorem at_store {P : Program} {ops : Array Oper} {rest : List Oper} {a : Act} {w : World} {Q : Exit → Act → World → Prop} {dst : Option Tmp} {p x : Operand} {oty : TypeId} {pos : String} {af : Array Edge} {gd : Option (Nat × Bool)} (ty : TypeId)
    (h : wpList P ops Q ({ dst := dst, op := .store ty p x, type := oty, pos := pos, after := af, guard := gd } :: rest) a w) :
    wpList P ops Q ({ dst := dst, op := .store ty p x, type := oty, pos := pos, after := af, guard := gd } :: rest) a w := h
/-- A call of a builtin, b. -/
theorem at_call {P : Program} {ops : Array Oper} {rest : List Oper} {a : Act} {w : World} {Q : Exit → Act → World → Prop} {dst : Option Tmp} {xs : Array Operand} {ts : Array TypeId} {oty : TypeId} {pos : String} {af : Array Edge} {gd : Option (Nat × Bool)} (b : Builtin)
    (h : wpList P ops Q ({ dst := dst, op := .call { callee := .builtin b, args := xs, argTypes := ts }, type := oty, pos := pos, after := af, guard := gd } :: rest) a w) :
    wpList P ops Q ({ dst := dst, op := .call { callee := .builtin b, args := xs, argTypes := ts }, type := oty, pos := pos, after := af, guard := gd } :: rest) a w := h
section
variable {P : Program} {w : World}
theorem run_store_all {o : Oper} {a : Act} (ty : TypeId) (p x : Operand) (ho : o.op = .store ty p x) (i : TypeInfo) (n : Nat) (hi : P.info? ty = some i) (hn : i.size = n) {g off : Nat} {cs : Array Value} (hp : a.eval p = .pointer (some ⟨g, off, none⟩)) (hx : a.eval x = .agg cs) (hcs : cs.size = n)
    {cur : Array Value} {e : TypeId} (hh : w.heap[g]? = some (.cells cur e (0, 0))) (hfit : off + n ≤ cur.size) (h1 : ∀ v ∈ cs.toList, v.oneCell' = true) :
    (execOp a.eval o).run P w = .ok .skip (w.setRow g (cur.toList.take off ++ cs.toList ++ cur.toList.drop (off + n)).toArray) := by
  have hst := run_storeCells_at P g off e cs.toList 0 cur w hh (by simp [hcs]; omega) h1
  simp only [Nat.add_zero, Array.length_toList, hcs] at hst
  simp [execOp, ho, hp, hx, Instr.storeAt, storeVar, Go.sizeOf, typeInfo, hi, hn, hcs, Value.cells, Instr.sureAddr, hst]
theorem run_load_all {o : Oper} {a : Act} (ty : TypeId) (p : Operand) (ho : o.op = .load ty p) (i : TypeInfo) (n : Nat) (hi : P.info? ty = some i) (hn : i.size = n) (fs : Array Field) (hu : P.underlying ty = some (.struct fs)) {g off : Nat} {cs : Array Value} (hp : a.eval p = .pointer (some ⟨g, off, none⟩)) (hcs : cs.size = n)
    (hc : ∀ j, j < n → w.cell? ⟨g, off + j, none⟩ = cs[j]?) : (execOp a.eval o).run P w = .ok (.value (.agg cs)) w := by
  have hl := run_loadCells_list (P := P) w ⟨g, off, none⟩ cs.toList (fun j v hv => by
    have hj : j < n := by rw [← hcs]; have := (List.getElem?_eq_some_iff.1 hv).1; simpa using this
    have e : (⟨g, off, none⟩ : Addr).add j = ⟨g, off + j, none⟩ := by unfold Addr.add; split <;> simp_all
    rw [e, hc j hj]
    simpa using hv)
  simp only [Array.length_toList, hcs] at hl
  simp [execOp, ho, hp, Instr.loadAt, loadVar, Go.sizeOf, typeInfo, hi, hn, isAgg, Instr.sureAddr, hl, run_underlying hu]
theorem wpList_store_all {ops : Array Oper} {rest : List Oper} {a : Act} {Q : Exit → Act → World → Prop} {dst : Option Tmp} {ty oty : TypeId} {p x : Operand} {pos : String} {af : Array Edge} (i : TypeInfo) (n : Nat) (hi : P.info? ty = some i) (hn : i.size = n) {g off : Nat} {cs : Array Value}
    (hp : a.eval p = .pointer (some ⟨g, off, none⟩)) (hx : a.eval x = .agg cs) (hcs : cs.size = n) {cur : Array Value} {e : TypeId} (hh : w.heap[g]? = some (.cells cur e (0, 0))) (hfit : off + n ≤ cur.size) (h1 : ∀ v ∈ cs.toList, v.oneCell' = true)
    (h : wpList P ops Q rest (a.put dst undef) (w.setRow g (cur.toList.take off ++ cs.toList ++ cur.toList.drop (off + n)).toArray)) :
    wpList P ops Q ({ dst := dst, op := .store ty p x, type := oty, pos := pos, after := af, guard := none } :: rest) a w := by
  refine wpList_plain rfl fun K hK => ?_
  unfold Oper.wp
  rw [run_store_all ty p x rfl i n hi hn hp hx hcs hh hfit h1]
  exact hK _ _ h
theorem wpList_load_all {ops : Array Oper} {rest : List Oper} {a : Act} {Q : Exit → Act → World → Prop} {dst : Option Tmp} {ty oty : TypeId} {p : Operand} {pos : String} {af : Array Edge} (i : TypeInfo) (n : Nat) (hi : P.info? ty = some i) (hn : i.size = n) (fs : Array Field) (hu : P.underlying ty = some (.struct fs)) {g off : Nat} {cs : Array Value}
    (hp : a.eval p = .pointer (some ⟨g, off, none⟩)) (hcs : cs.size = n) (hc : ∀ j, j < n → w.cell? ⟨g, off + j, none⟩ = cs[j]?) (h : wpList P ops Q rest (a.put dst (.agg cs)) w) :
    wpList P ops Q ({ dst := dst, op := .load ty p, type := oty, pos := pos, after := af, guard := none } :: rest) a w := by
  refine wpList_plain rfl fun K hK => ?_
  unfold Oper.wp
  rw [run_load_all ty p rfl i n hi hn fs hu hp hcs hc]
  exact hK _ _ h
theorem results_cell_all {fn : Func} {p : Tmp} {ty : TypeId} (h : fn.results = #[.cell p ty]) (tmps : Array Value) (i : TypeInfo) (n : Nat) (hi : P.info? ty = some i) (hn : i.size = n) (fs : Array Field) (hu : P.underlying ty = some (.struct fs)) {g off : Nat} {cs : Array Value}
    (hp : tmps.getD p undef = .pointer (some ⟨g, off, none⟩)) (hcs : cs.size = n) (hc : ∀ j, j < n → w.cell? ⟨g, off + j, none⟩ = cs[j]?) : (results fn tmps).run P w = .ok (.agg cs) w := by
  have hl := run_loadCells_list (P := P) w ⟨g, off, none⟩ cs.toList (fun j v hv => by
    have hj : j < n := by rw [← hcs]; have := (List.getElem?_eq_some_iff.1 hv).1; simpa using this
    have e : (⟨g, off, none⟩ : Addr).add j = ⟨g, off + j, none⟩ := by unfold Addr.add; split <;> simp_all
    rw [e, hc j hj]
    simpa using hv)
  simp only [Array.length_toList, hcs] at hl
  simp only [results, h]
  rw [Array.getD_eq_getD_getElem?] at hp
  simp [Sem.run_bind, hp, loadVar, Go.sizeOf, typeInfo, hi, hn, isAgg, asAddr, hl, run_underlying hu]
/-- What a store of a whole row leaves. -/
theorem setRow_at {g : Nat} {cur : Array Value} {e : TypeId} (hh : w.heap[g]? = some (.cells cur e (0, 0))) (cs : Array Value) : (w.setRow g cs).heap[g]? = some (.cells cs e (0, 0)) := setRow_heap w g cur cs e _ hh
end
end Go.Proofs.Ytlgnghehgcoccaa
