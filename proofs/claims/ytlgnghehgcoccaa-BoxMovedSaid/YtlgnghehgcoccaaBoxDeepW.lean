/- deep.Box: the walk. -/
import Derived.Test.YtlgnghehgcoccaaBoxDeep3
import Derived.Test.YtlgnghehgcoccaaLeast
namespace Go.Proofs.Ytlgnghehgcoccaa
open Go.RowKit Go.Deep
theorem make_boxes (n : Nat) (hn : n ≤ 100000) (W : World) : (Instr.makeSlice 22 (.int .i64 (n : Int)) (.int .i64 (n : Int))).run Try.prog W =
    .ok (.slice (some ⟨W.heap.size, 0, none⟩) n n) (W.alloc (.cells (madeCells zeroBox (n * 11)) 25)) := by
  obtain ⟨i, hi, hz, hs, hb⟩ := info_parts infoBox
  have h := run_make (P := Try.prog) W 22 25 i (.agg zeroBox) Try.underlying22 hi hz .i64 .i64 (n : Int) (n : Int) (by omega) (by omega) (by rw [hb]; omega) (by omega)
  rw [hs, show ((n : Int)).toNat = n by omega] at h
  exact h
set_option maxHeartbeats 1000000 in
/-- Clone, whatever the length that the reach allows. -/
theorem clone_fit (A : Option Addr) (c : Nat) (l : List Int) (w : World) (hl : l.length ≤ 17592186044416) (hI : Ints w 0 w.heap.size A l) :
    Calls Try.prog 30 #[.slice A l.length c] w fun e w' => (∃ A' c', e = .returned (.slice A' l.length c') ∧ Ints w' w.heap.size w'.heap.size A' l ) ∧ Below w.heap.size w w' := by
  obtain ⟨i0, hi0, hz0, hz1, hz2⟩ := info_parts infoI
  have HI := Lib.hid hI
  have hE := fun W => Lib.run_eql_slice_nil (P := Try.prog) W 23 3 A l.length c 0 0 Try.underlying23
  clear hI
  cases A with
  | none =>
    have h1 : l.length = 0 := by
      rcases Nat.eq_zero_or_pos l.length with h | h
      · exact h
      · obtain ⟨_, _, e, _⟩ := HI.out h
        cases e
    have HL := Lib.hid h1
    rw [h1] at hE ⊢
    clear h1
    go_enter Try.func30, Try.ntmps30
    go_wp2
    go_ret
    exact ⟨⟨none, 0, rfl, fun h => absurd h (by have := HL.out; omega)⟩, Below.refl _ _⟩
  | some a =>
    go_enter Try.func30, Try.ntmps30
    go_wp2_with (at_builtin; refine wpList_append_copy rfl _ _ 23 3 rfl i0 _ 1 8 Try.underlying23 hi0 hz0 hz1 hz2 rfl (by decide) rfl rfl (heap_alloc_new _ _) (intV l) (by simp [intV]) (ints_src (HI.out.next (one_below _ _))) (fun u hu => by unfold intV at hu; obtain ⟨x, _, rfl⟩ := List.mem_map.1 hu; rfl) (by unfold maxLen; omega) (by omega) ?_; intro A2 c2 w2 hcp hb2; have HCP := Lib.hid hcp; have HB2 := Lib.hid hb2; clear hcp hb2)
    go_ret
    exact ⟨⟨A2, c2, rfl, ints_copied HCP.out⟩, (one_below _ _).trans HB2.out⟩
/-- A copy of nothing. -/
theorem run_copy_zero {P : Program} {w : World} (dT sT ty elem : TypeId) (A : Option Addr) (c : Nat) (hu : P.underlying dT = some (.slice elem)) (hs : ((P.info? elem).map (·.size)).isSome = true) :
    (Builtin.copy_ #[dT, sT] ty #[.slice none 0 0, .slice A 0 c]).run P w = .ok (goInt 0) w := by
  cases hq : P.info? elem with
  | none => simp [hq] at hs
  | some i => cases A <;> simp [Builtin.copy_, run_underlying hu, Builtin.lenOf, Builtin.firstCells, sizeOf, typeInfo, hq, loadCells, loadCellsFrom]
theorem wpList_copy_zero {P : Program} {w : World} {ops : Array Oper} {rest : List Oper} {o : Oper} {a : Act} {Q : Exit → Act → World → Prop} (hgd : o.guard = none) (d s : Operand) (dT sT : TypeId)
    (ho : o.op = .call { callee := .builtin .copy, args := #[d, s], argTypes := #[dT, sT] }) (elem : TypeId) (hu : P.underlying dT = some (.slice elem)) (hsz : ((P.info? elem).map (·.size)).isSome = true) (A : Option Addr) (c : Nat) (hd : a.eval d = .slice none 0 0) (hs : a.eval s = .slice A 0 c)
    (h : wpList P ops Q rest (a.put o.dst (goInt 0)) w) : wpList P ops Q (o :: rest) a w := by
  refine wpList_plain hgd fun K hK => ?_
  have hrun := run_copy_zero (P := P) (w := w) dT sT o.type elem A c hu hsz
  unfold Oper.wp
  simp only [execOp, ho, resolve, invoke, builtin, Sem.run_bind, Sem.run_pure, Result.andThen_ok, List.map_toArray, List.map_cons, List.map_nil, hd, hs, hrun]
  exact hK _ _ h
theorem own_keep {w w' : World} {base n c size g : Nat} {e : TypeId} {xs : List Value} (h : w.ownsRow base e size (.slice (some ⟨g, 0, none⟩) n c) n xs) (hb : w'.heap[g]? = w.heap[g]?) : w'.ownsRow base e size (.slice (some ⟨g, 0, none⟩) n c) n xs := by
  obtain ⟨h1, h2⟩ := h
  refine ⟨h1, ?_⟩
  rcases h2 with ⟨h3, _⟩ | ⟨g', cap, cur, h3, h4, h5, h6⟩
  · cases h3
  · injection h3 with e1 e2 e3
    injection e1 with e1
    injection e1 with e1
    subst e1 e3
    exact .inr ⟨_, _, cur, rfl, h4, hb.trans h5, h6⟩
def ptrN (e : Node) : Value := .pointer (some ⟨e.1, e.2.1, none⟩)
def cntN : List Node → Nat
  | [] => 0
  | e :: es => cntB e.2.2 + cntN es
theorem cntN_append : ∀ a b : List Node, cntN (a ++ b) = cntN a + cntN b
  | [], b => by simp [cntN]
  | t :: ts, b => by simp [cntN, cntN_append ts b]; omega
theorem cntN_len : ∀ a : List Node, a.length ≤ cntN a
  | [] => by simp [cntN]
  | t :: ts => by have := cntN_len ts; have := cntB_pos t.2.2; simp [cntN]; omega
theorem cntN_one (e : Node) : cntN [e] = cntB e.2.2 := by simp [cntN]
theorem cntN_take (gk : Nat) (l : List Bx) : ∀ n, n ≤ l.length → cntN ((List.range n).map fun i => (gk, i * 11, kidAt l i)) = cntL (l.take n)
  | 0, _ => by simp [cntN, cntL_nil]
  | n + 1, h => by
    rw [List.range_succ, List.map_append, cntN_append, cntN_take gk l n (by omega), cnt_take l (by omega)]
    simp [cntN]
theorem cntN_kidN (gk : Nat) (l : List Bx) : cntN (kidN gk l) = cntL l := by
  have := cntN_take gk l l.length (Nat.le_refl _)
  rwa [List.take_length] at this
def kp (gk i : Nat) : List Value := (List.range i).map fun j => .pointer (some ⟨gk, j * 11, none⟩)
theorem kp_zero (gk : Nat) : kp gk 0 = [] := rfl
theorem kp_succ (gk i : Nat) : kp gk (i + 1) = kp gk i ++ [.pointer (some ⟨gk, i * 11, none⟩)] := by simp [kp, List.range_succ]
theorem kp_kidN (gk : Nat) (l : List Bx) : (kidN gk l).map ptrN = kp gk l.length := by simp [kp, kidN, ptrN, Function.comp_def]
theorem kidN_len (gk : Nat) (l : List Bx) : (kidN gk l).length = l.length := by simp [kidN]
/-- The loop's relation, with the number of boxes that are still to be copied. -/
def RD (w Wi : World) (t : Bx) (N : Nat) (l : Value) (wr : World) : Prop :=
  ∃ (E : List Node) (g cp : Nat), l = .slice (some ⟨g, 0, none⟩) E.length cp ∧ wr.ownsRow (w.heap.size + 2) 48 1 (.slice (some ⟨g, 0, none⟩) E.length cp) E.length (E.map ptrN) ∧ DS w Wi t E g wr ∧ cntN E = N ∧ N ≤ 100000
end Go.Proofs.Ytlgnghehgcoccaa
