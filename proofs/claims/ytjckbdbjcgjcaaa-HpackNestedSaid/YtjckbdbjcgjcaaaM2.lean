/- The state of deep.Box's loop: plain words. -/
import Derived.Laws.CopyOwn
import Derived.Test.YtjckbdbjcgjcaaaM1
import Derived.RangeFuncBox
import Derived.Deep.Slices
import Derived.WalkKit
/- copy of elements of any size; append of one element, and what it leaves alone. -/
namespace Go.Proofs.Ytjckbdbjcgjcaaa
open Go.RowKit
section
variable {P : Program} {w : World}
theorem run_copy_el (dT sT ty elem : TypeId) (g o dLen dCap : Nat) (a : Addr) (sLen sCap : Nat) (cur : Array Value) (t : TypeId) (cs : List Value) (size : Nat)
    (hu : P.underlying dT = some (.slice elem)) (hs : (P.info? elem).map (·.size) = some size)
    (hg : w.heap[g]? = some (.cells cur t (0, 0))) (hn : cs.length = Nat.min sLen dLen * size)
    (hsrc : ∀ j v, cs[j]? = some v → w.cell? (a.add j) = some v) (hfit : o + cs.length ≤ cur.size) (h1 : ∀ v ∈ cs, v.oneCell' = true) :
    (Builtin.copy_ #[dT, sT] ty #[.slice (some ⟨g, o, none⟩) dLen dCap, .slice (some a) sLen sCap]).run P w =
      .ok (goInt (Nat.min sLen dLen)) (w.setRow g (cur.toList.take o ++ cs ++ cur.toList.drop (o + cs.length)).toArray) := by
  have hl := run_loadCells_list (P := P) w a cs hsrc
  have hst := run_storeCells_at P g o t cs 0 cur w hg (by simpa using hfit) h1
  cases hq : P.info? elem with
  | none => simp [hq] at hs
  | some i =>
    have hi : i.size = size := by simpa [hq] using hs
    simp [Builtin.copy_, run_underlying hu, Builtin.lenOf, Builtin.firstCells, sizeOf, typeInfo, hq, hi, ← hn, hl, hst]
theorem wpList_copy_el {ops : Array Oper} {rest : List Oper} {o : Oper} {a : Act} {Q : Exit → Act → World → Prop} (hgd : o.guard = none) (d s : Operand) (dT sT : TypeId)
    (ho : o.op = .call { callee := .builtin .copy, args := #[d, s], argTypes := #[dT, sT] }) (elem : TypeId) (size : Nat) (hu : P.underlying dT = some (.slice elem)) (hsz : (P.info? elem).map (·.size) = some size)
    (g off dLen dCap : Nat) (ad : Addr) (sLen sCap : Nat) (hd : a.eval d = .slice (some ⟨g, off, none⟩) dLen dCap) (hs : a.eval s = .slice (some ad) sLen sCap)
    (cur : Array Value) (t : TypeId) (hg : w.heap[g]? = some (.cells cur t (0, 0))) (cs : List Value) (hn : cs.length = Nat.min sLen dLen * size)
    (hsrc : ∀ j v, cs[j]? = some v → w.cell? (ad.add j) = some v) (hfit : off + cs.length ≤ cur.size) (h1 : ∀ v ∈ cs, v.oneCell' = true)
    (h : wpList P ops Q rest (a.put o.dst (goInt (Nat.min sLen dLen))) (w.setRow g (cur.toList.take off ++ (cs ++ cur.toList.drop (off + cs.length))).toArray)) : wpList P ops Q (o :: rest) a w := by
  refine wpList_plain hgd fun K hK => ?_
  have hrun := run_copy_el (P := P) (w := w) dT sT o.type elem g off dLen dCap ad sLen sCap cur t cs size hu hsz hg hn hsrc hfit h1
  unfold Oper.wp
  simp only [execOp, ho, resolve, invoke, builtin, Sem.run_bind, Sem.run_pure, Result.andThen_ok, List.map_toArray, List.map_cons, List.map_nil, hd, hs, hrun]
  rw [List.append_assoc]
  exact hK _ _ h
/-- All blocks that were there, but the row's, are as they were. -/
structure Gr (g : Nat) (w w' : World) : Prop where
  os : w'.os = w.os
  tape : w'.tape = w.tape
  output : w'.output = w.output
  size : w.heap.size ≤ w'.heap.size
  block : ∀ k, k < w.heap.size → k ≠ g → w'.heap[k]? = w.heap[k]?
theorem Gr.refl (g : Nat) (w : World) : Gr g w w := ⟨rfl, rfl, rfl, Nat.le_refl _, fun _ _ _ => rfl⟩
theorem Gr.trans {g g' : Nat} {a b c : World} (h : Gr g a b) (k : Gr g' b c) (hg : g' = g ∨ a.heap.size ≤ g') : Gr g a c :=
  ⟨k.os.trans h.os, k.tape.trans h.tape, k.output.trans h.output, Nat.le_trans h.size k.size, fun x hx hn => (k.block x (Nat.lt_of_lt_of_le hx h.size) (by omega)).trans (h.block x hx hn)⟩
theorem gr_alloc (g : Nat) (w : World) (o : Obj) : Gr g w (w.alloc o) := by
  have hb : Below w.heap.size w (w.alloc o) := (Below.refl _ w).alloc (Nat.le_refl _) _
  exact ⟨hb.os, hb.tape, hb.output, hb.size, fun k hk _ => hb.block k hk⟩
theorem Gr.below {g B : Nat} {a w w' : World} (h : Gr g w w') (hb : Below B a w) (hB : B ≤ w.heap.size) (hg : B ≤ g) : Below B a w' :=
  hb.trans ⟨h.os, h.tape, h.output, h.size, fun k hk => h.block k (by omega) (by omega)⟩
theorem run_append_gr (t ty e : TypeId) (i : TypeInfo) (z : Value) (size bytes : Nat) (ht : P.underlying t = some (.slice e)) (hi : P.info? e = some i) (hz : i.zero = some z) (hsize : i.size = size) (hby : i.bytes = bytes) (hzs : z.cells.size = size) (hsz : 0 < size)
    {base c n gs : Nat} {xs : List Value} (hown : w.ownsRow base e size (.slice (some ⟨gs, 0, none⟩) n c) n xs) {g c1 : Nat} {news : Array Value} (hg : w.heap[g]? = some (.cells news e (0, 0))) (hl : news.size = size) (h1 : ∀ u ∈ news.toList, u.oneCell' = true) (hn : n + 1 ≤ maxLen) (hb : (n + 1) * bytes ≤ 140737488355328) (hbase : base ≤ w.heap.size) :
    ∃ g' c' w', (Builtin.append_ #[t, t] ty #[.slice (some ⟨gs, 0, none⟩) n c, .slice (some ⟨g, 0, none⟩) 1 c1]).run P w = .ok (.slice (some ⟨g', 0, none⟩) (n + 1) c') w' ∧ w'.ownsRow base e size (.slice (some ⟨g', 0, none⟩) (n + 1) c') (n + 1) (xs ++ news.toList) ∧ Gr gs w w' ∧ (g' = gs ∨ w.heap.size ≤ g') := by
  obtain ⟨v', w', hrun, hown', hgrow, hx1, hx2⟩ := run_append_own_at (P := P) (w := w) base t ty e i z size bytes ht hi hz hsize hby hzs hsz _ n xs hown ⟨g, 0, none⟩ 1 c1 news.toList (by simp [hl]) (fun j u hu => by
      rw [Array.getElem?_toList] at hu
      have : (⟨g, 0, none⟩ : Addr).add j = ⟨g, j, none⟩ := by
        unfold Addr.add
        by_cases h : j = 0
        · subst h; simp
        · simp [h]
      rw [this]
      exact (cell_of_row w g j news e (0, 0) hg).trans hu) h1 hn hb hbase
  obtain ⟨g', cap', hv, _, _⟩ := hown'.form (by omega)
  subst hv
  refine ⟨g', cap', w', hrun, hown', ⟨hgrow.os, hgrow.tape, hgrow.output, hgrow.size, fun k hk hne => hgrow.block k hk (by simp [Value.ownBlock]; omega)⟩, ?_⟩
  simp [Value.ownBlock] at hx2
  omega
theorem wpList_append_gr {ops : Array Oper} {rest : List Oper} {o : Oper} {a : Act} {Q : Exit → Act → World → Prop} (hgd : o.guard = none) (s x : Operand) (t e : TypeId)
    (ho : o.op = .call { callee := .builtin .append, args := #[s, x], argTypes := #[t, t] }) (i : TypeInfo) (z : Value) (size bytes : Nat) (ht : P.underlying t = some (.slice e)) (hi : P.info? e = some i) (hz : i.zero = some z) (hsize : i.size = size) (hby : i.bytes = bytes) (hzs : z.cells.size = size) (hsz : 0 < size)
    {base c n gs : Nat} {xs : List Value} (hs : a.eval s = .slice (some ⟨gs, 0, none⟩) n c) (hown : w.ownsRow base e size (.slice (some ⟨gs, 0, none⟩) n c) n xs) {g c1 : Nat} {news : Array Value} (hx : a.eval x = .slice (some ⟨g, 0, none⟩) 1 c1) (hg : w.heap[g]? = some (.cells news e (0, 0))) (hl : news.size = size) (h1 : ∀ u ∈ news.toList, u.oneCell' = true) (hn : n + 1 ≤ maxLen) (hb : (n + 1) * bytes ≤ 140737488355328) (hbase : base ≤ w.heap.size)
    (h : ∀ g' c' w', w'.ownsRow base e size (.slice (some ⟨g', 0, none⟩) (n + 1) c') (n + 1) (xs ++ news.toList) → Gr gs w w' → (g' = gs ∨ w.heap.size ≤ g') → wpList P ops Q rest (a.put o.dst (.slice (some ⟨g', 0, none⟩) (n + 1) c')) w') : wpList P ops Q (o :: rest) a w := by
  refine wpList_plain hgd fun K hK => ?_
  obtain ⟨g', c', w', hrun, h2, h3, h4⟩ := run_append_gr (P := P) t o.type e i z size bytes ht hi hz hsize hby hzs hsz hown hg hl h1 hn hb hbase (c1 := c1)
  unfold Oper.wp execOp
  simp only [ho, resolve, invoke, builtin, Sem.run_bind, Sem.run_pure, Result.andThen_ok, List.map_toArray, List.map_cons, List.map_nil, hs, hx, hrun]
  exact hK _ _ (h g' c' w' h2 h3 h4)
end
end Go.Proofs.Ytjckbdbjcgjcaaa
/- Deep copies: what a loop over pending nodes leaves. -/
namespace Go.Proofs.Ytjckbdbjcgjcaaa
open Go.RowKit Go.Deep
/-- A node: its block, its place there, its box. -/
abbrev Node := Nat × Nat × Bx
/-- Cells of a block hold these. -/
def In (W : World) (b o : Nat) (arr : Array Value) : Prop := ∃ cs ty, W.heap[b]? = some (.cells cs ty (0, 0)) ∧ o + arr.size ≤ cs.size ∧ ∀ j, j < arr.size → cs[o + j]? = arr[j]?
theorem In.cell {W : World} {b o : Nat} {arr : Array Value} (h : In W b o arr) {j : Nat} (hj : j < arr.size) : W.cell? ⟨b, o + j, none⟩ = arr[j]? := by
  obtain ⟨cs, ty, hb, _, hc⟩ := h
  rw [cell_of_row _ _ _ _ _ _ hb, hc j hj]
theorem In.lt {W : World} {b o : Nat} {arr : Array Value} (h : In W b o arr) : b < W.heap.size := by
  obtain ⟨cs, ty, hb, _⟩ := h
  exact (Array.getElem?_eq_some_iff.1 hb).1
theorem In.free {W : World} {b o : Nat} {arr : Array Value} (h : In W b o arr) (k : Nat) : W.frozen? ⟨b, k, none⟩ = false := by
  obtain ⟨cs, ty, hb, _⟩ := h
  exact blk_free hb k
theorem In.keep {W W' : World} {b o : Nat} {arr : Array Value} (h : In W b o arr) (hb : W'.heap[b]? = W.heap[b]?) : In W' b o arr := by
  obtain ⟨cs, ty, h1, h2, h3⟩ := h
  exact ⟨cs, ty, hb.trans h1, h2, h3⟩
/-- A store beside. -/
theorem In.aside {W : World} {b o : Nat} {arr : Array Value} (h : In W b o arr) {p : Nat × Nat} {v : Value} (hp : p.1 ≠ b ∨ p.2 < o ∨ o + arr.size ≤ p.2) : In (W.setCell ⟨p.1, p.2, none⟩ v) b o arr := by
  obtain ⟨cs, ty, h1, h2, h3⟩ := h
  by_cases e : p.1 = b
  · subst e
    refine ⟨cs.setIfInBounds p.2 v, ty, blk_set h1 p.2 v, by simpa using h2, fun j hj => ?_⟩
    rw [Array.getElem?_setIfInBounds_ne (by rcases hp with h | h | h <;> omega)]
    exact h3 j hj
  · exact ⟨cs, ty, blk_far h1 (p := ⟨p.1, p.2, none⟩) (fun e' => e e'.symm) v, h2, h3⟩
/-- A store into one of them. -/
theorem In.store {W : World} {b o : Nat} {arr : Array Value} (h : In W b o arr) {k : Nat} (hk : k < arr.size) (v : Value) : In (W.setCell ⟨b, o + k, none⟩ v) b o (arr.setIfInBounds k v) := by
  obtain ⟨cs, ty, h1, h2, h3⟩ := h
  refine ⟨cs.setIfInBounds (o + k) v, ty, blk_set h1 _ v, by simpa using h2, fun j hj => ?_⟩
  have hj' : j < arr.size := by simpa using hj
  by_cases e : j = k
  · subst e
    rw [Array.getElem?_setIfInBounds_self_of_lt (by omega), Array.getElem?_setIfInBounds_self_of_lt hj']
  · rw [Array.getElem?_setIfInBounds_ne (by omega), Array.getElem?_setIfInBounds_ne (by omega)]
    exact h3 j hj'
def Pend (w0 : World) (base : Nat) (W : World) (e : Node) : Prop :=
  ∃ A c A' c', In W e.1 e.2.1 (bxA e.2.2 A c A' c') ∧ Kids w0 0 base A e.2.2.kids ∧ Ints w0 0 base A' e.2.2.src ∧ lens e.2.2 ∧ base ≤ e.1
def Deep (lo : Nat) (W : World) (e : Node) : Prop := ∃ A c A' c', BoxAt W e.1 e.2.1 e.2.2 A c A' c' ∧ Kids W lo W.heap.size A e.2.2.kids ∧ Ints W lo W.heap.size A' e.2.2.src
def Apart (e f : Node) : Prop := e.1 ≠ f.1 ∨ e.2.1 + 11 ≤ f.2.1 ∨ f.2.1 + 11 ≤ e.2.1
def Hit (E : List Node) (k off : Nat) : Prop := ∃ e ∈ E, e.1 = k ∧ (off = e.2.1 + 8 ∨ off = e.2.1 + 10)
structure Fin (base : Nat) (E : List Node) (g : Nat) (W wf : World) : Prop where
  size : W.heap.size ≤ wf.heap.size
  deep : ∀ e ∈ E, Deep base wf e
  cell : ∀ k off, k < W.heap.size → k ≠ g → ¬ Hit E k off → wf.cell? ⟨k, off, none⟩ = W.cell? ⟨k, off, none⟩
theorem Fin.nil (base g : Nat) (W : World) : Fin base [] g W W := ⟨Nat.le_refl _, fun e h => absurd h (by simp), fun _ _ _ _ _ => rfl⟩
def kidN (gk : Nat) (l : List Bx) : List Node := (List.range l.length).map fun i => (gk, i * 11, kidAt l i)
theorem kidN_mem {gk : Nat} {l : List Bx} {e : Node} (h : e ∈ kidN gk l) : ∃ i, i < l.length ∧ e = (gk, i * 11, kidAt l i) := by
  unfold kidN at h
  obtain ⟨i, hi, rfl⟩ := List.mem_map.1 h
  exact ⟨i, List.mem_range.1 hi, rfl⟩
theorem mem_kidN {gk : Nat} {l : List Bx} {i : Nat} (h : i < l.length) : (gk, i * 11, kidAt l i) ∈ kidN gk l := List.mem_map.2 ⟨i, List.mem_range.2 h, rfl⟩
/-- One step: node p's lists have been copied, its kids are pending now. -/
theorem Fin.step {base g g' : Nat} {E : List Node} {p : Node} {W W' wf : World} {gk c c' : Nat} {B : Option Addr} {Ak : Option Addr} (hsz : W.heap.size ≤ W'.heap.size) (hpl : p.1 < W.heap.size) (hpg : p.1 ≠ g) (hpg' : p.1 ≠ g') (hbase : base ≤ W.heap.size)
    (hat : In W' p.1 p.2.1 (bxA p.2.2 Ak c B c')) (hAk : 0 < p.2.2.kids.length → Ak = some ⟨gk, 0, none⟩) (hfr : ∀ k off, k < W.heap.size → k ≠ g → ¬ Hit [p] k off → W'.cell? ⟨k, off, none⟩ = W.cell? ⟨k, off, none⟩) (hg : g' = g ∨ W.heap.size ≤ g')
    (hgk : 0 < p.2.2.kids.length → W.heap.size ≤ gk ∧ gk < W'.heap.size ∧ gk ≠ g') (hB : 0 < p.2.2.src.length → ∃ b off, B = some ⟨b, off, none⟩ ∧ W.heap.size ≤ b ∧ b < W'.heap.size ∧ b ≠ g' ∧ (0 < p.2.2.kids.length → b ≠ gk) ∧ ∀ k, k < p.2.2.src.length → W'.cell? ⟨b, off + k, none⟩ = some (.int .i64 (lAt p.2.2.src k)))
    (hap : ∀ e ∈ E, Apart e p) (hE : ∀ e ∈ E, e.1 < W.heap.size) (hlen : ∀ i, i < p.2.2.kids.length → lens (kidAt p.2.2.kids i))
    (h : Fin base (E ++ kidN gk p.2.2.kids) g' W' wf) : Fin base (E ++ [p]) g W wf := by
  obtain ⟨hs, hd, hc⟩ := h
  have hnk : ∀ k off, k < W.heap.size → ¬ Hit E k off → ¬ Hit (E ++ kidN gk p.2.2.kids) k off := fun k off hk hn hh => by
    obtain ⟨e, he, h1, h2⟩ := hh
    rcases List.mem_append.1 he with h3 | h3
    · exact hn ⟨e, h3, h1, h2⟩
    · obtain ⟨i, hi, rfl⟩ := kidN_mem h3
      have := (hgk (by omega)).1
      simp at h1
      omega
  refine ⟨by omega, fun e he => ?_, fun k off hk hkg hn => ?_⟩
  · rcases List.mem_append.1 he with h1 | h1
    · exact hd e (List.mem_append_left _ h1)
    · obtain rfl : e = p := by simpa using h1
      obtain ⟨f, hf⟩ := choose_lt (p := fun i (q : Option Addr × Nat × Option Addr × Nat) => BoxAt wf gk (i * 11) (kidAt e.2.2.kids i) q.1 q.2.1 q.2.2.1 q.2.2.2 ∧ Kids wf base wf.heap.size q.1 (kidAt e.2.2.kids i).kids ∧ Ints wf base wf.heap.size q.2.2.1 (kidAt e.2.2.kids i).src) (n := e.2.2.kids.length) (fun i hi => by
        obtain ⟨A, c, A', c', h1, h2, h3⟩ := hd _ (List.mem_append_right _ (mem_kidN (gk := gk) hi))
        exact ⟨(A, c, A', c'), h1, h2, h3⟩)
      refine ⟨Ak, c, B, c', fun j hj => ?_, ?_, fun h0 => ?_⟩
      · rw [hc _ _ (by omega) hpg' (hnk _ _ hpl (fun hh => ?_))]
        · exact hat.cell hj
        · obtain ⟨e', he', h1, h2⟩ := hh
          have := hap e' he'
          unfold Apart at this
          omega
      · refine .mk _ _ (fun i => (f i).1) (fun i => (f i).2.2.1) (fun i => (f i).2.1) (fun i => (f i).2.2.2) (fun h0 => ?_) (fun i hi => (hf i hi).2.2) hlen (fun i hi => (hf i hi).2.1)
        obtain ⟨h1, h2, _⟩ := hgk h0
        refine ⟨gk, 0, hAk h0, by omega, by omega, fun i hi j hj => ?_⟩
        rw [Nat.zero_add]
        exact (hf i hi).1 j hj
      · obtain ⟨b, off, rfl, h1, h2, h3, h4, h5⟩ := hB h0
        refine ⟨b, off, rfl, by omega, by omega, fun k hk => ?_⟩
        rw [hc _ _ h2 h3 (fun hh => ?_)]
        · exact h5 k hk
        · obtain ⟨e', he', h6, h7⟩ := hh
          rcases List.mem_append.1 he' with h8 | h8
          · have := hE e' h8
            omega
          · obtain ⟨i, hi, rfl⟩ := kidN_mem h8
            exact h4 (by omega) h6.symm
  · have hk1 : k < W'.heap.size := Nat.lt_of_lt_of_le hk hsz
    have hk2 : k ≠ g' := by rcases hg with h | h <;> omega
    rw [hc k off hk1 hk2 (hnk k off hk (fun hh => hn (by
      obtain ⟨e, he, h1⟩ := hh
      exact ⟨e, List.mem_append_left _ he, h1⟩)))]
    exact hfr k off hk hkg (fun hh => hn (by
      obtain ⟨e, he, h1⟩ := hh
      exact ⟨e, List.mem_append_right _ he, h1⟩))
end Go.Proofs.Ytjckbdbjcgjcaaa
/- Deep copies: the state of the loop, and one round's memory. -/
namespace Go.Proofs.Ytjckbdbjcgjcaaa
open Go.RowKit Go.Deep
/-- What a round's copying leaves. -/
structure It (w wr W4 : World) (p : Node) (gk : Nat) (Ak : Option Addr) (ck : Nat) (A3 : Option Addr) (c3 : Nat) : Prop where
  size : wr.heap.size ≤ W4.heap.size
  own : In W4 p.1 p.2.1 (bxA p.2.2 Ak ck A3 c3)
  aside : ∀ e : Node, Apart e p → ∀ arr : Array Value, arr.size = 11 → In wr e.1 e.2.1 arr → In W4 e.1 e.2.1 arr
  cell : ∀ k off, k < wr.heap.size → ¬ Hit [p] k off → W4.cell? ⟨k, off, none⟩ = wr.cell? ⟨k, off, none⟩
  block : ∀ k, k < wr.heap.size → k ≠ p.1 → W4.heap[k]? = wr.heap[k]?
  kids : 0 < p.2.2.kids.length → Ak = some ⟨gk, 0, none⟩ ∧ wr.heap.size ≤ gk ∧ gk < W4.heap.size ∧ ∀ i, i < p.2.2.kids.length → Pend w w.heap.size W4 (gk, i * 11, kidAt p.2.2.kids i)
  src : 0 < p.2.2.src.length → ∃ b off, A3 = some ⟨b, off, none⟩ ∧ wr.heap.size ≤ b ∧ b < W4.heap.size ∧ (0 < p.2.2.kids.length → b ≠ gk) ∧ ∀ k, k < p.2.2.src.length → W4.cell? ⟨b, off + k, none⟩ = some (.int .i64 (lAt p.2.2.src k))
  bel : Below w.heap.size w W4
/-- The state of the loop. -/
structure DS (w Wi : World) (t : Bx) (E : List Node) (g : Nat) (W : World) : Prop where
  pend : ∀ e ∈ E, Pend w w.heap.size W e
  fit : ∀ e ∈ E, fitB e.2.2
  ng : ∀ e ∈ E, e.1 ≠ g ∧ e.1 ≠ w.heap.size + 1
  ap : E.Pairwise Apart
  res : W.heap[w.heap.size + 1]? = some (.cells zeroBox 28 (0, 0))
  bel : Below w.heap.size w W
  gle : w.heap.size + 2 ≤ g
  glt : g < W.heap.size
  fin : ∀ wf, Fin (w.heap.size + 2) E g W wf → Fin (w.heap.size + 2) [(w.heap.size, 0, t)] (w.heap.size + 2) Wi wf
theorem Gr.cell {g : Nat} {W W' : World} (h : Gr g W W') {k : Nat} (hk : k < W.heap.size) (hn : k ≠ g) (off : Nat) : W'.cell? ⟨k, off, none⟩ = W.cell? ⟨k, off, none⟩ := cell_of_heap (h.block k hk hn)
theorem DS.next {w Wi wr W4 W' : World} {t : Bx} {E : List Node} {p : Node} {g g' gk : Nat} {Ak : Option Addr} {ck : Nat} {A3 : Option Addr} {c3 : Nat} (h : DS w Wi t (E ++ [p]) g wr) (it : It w wr W4 p gk Ak ck A3 c3) (hgr : Gr g W4 W') (hg : g' = g ∨ W4.heap.size ≤ g') (hgl : g' < W'.heap.size) :
    DS w Wi t (E ++ kidN gk p.2.2.kids) g' W' := by
  have hp : p ∈ E ++ [p] := List.mem_append_right _ (by simp)
  have hpl : p.1 < wr.heap.size := by obtain ⟨A, c, A', c', h1, _⟩ := h.pend p hp; exact h1.lt
  have hbase : w.heap.size ≤ p.1 := by obtain ⟨A, c, A', c', _, _, _, _, h1⟩ := h.pend p hp; exact h1
  have hlens : ∀ i, i < p.2.2.kids.length → lens (kidAt p.2.2.kids i) := fun i hi => by
    obtain ⟨A, c, A', c', _, h1, _⟩ := h.pend p hp
    obtain ⟨_, _, _, _, _, _, _, _, _, _, _, _, hl⟩ := h1.at hi
    exact hl
  have hwr : w.heap.size ≤ wr.heap.size := h.bel.size
  have hsz := it.size
  have hsz' := hgr.size
  have hglt := h.glt
  have hgle := h.gle
  have hEl : ∀ e ∈ E, e.1 < wr.heap.size := fun e he => by obtain ⟨A, c, A', c', h1, _⟩ := h.pend e (List.mem_append_left _ he); exact h1.lt
  have hapE : ∀ e ∈ E, Apart e p := fun e he => (List.pairwise_append.1 h.ap).2.2 e he p (by simp)
  have hgg : g' = g ∨ wr.heap.size ≤ g' := by omega
  have hkid : ∀ i, i < p.2.2.kids.length → wr.heap.size ≤ gk ∧ gk < W4.heap.size ∧ gk ≠ g ∧ gk ≠ g' := fun i hi => by
    obtain ⟨_, h1, h2, _⟩ := it.kids (by omega)
    omega
  refine ⟨fun e he => ?_, fun e he => ?_, fun e he => ?_, ?_, ?_, ?_, ?_, hgl, fun wf hwf => ?_⟩
  · rcases List.mem_append.1 he with h1 | h1
    · obtain ⟨A, c, A', c', h2, h3⟩ := h.pend e (List.mem_append_left _ h1)
      have h4 := it.aside e (hapE e h1) _ rfl h2
      exact ⟨A, c, A', c', h4.keep (hgr.block _ h4.lt (h.ng e (List.mem_append_left _ h1)).1), h3⟩
    · obtain ⟨i, hi, rfl⟩ := kidN_mem h1
      obtain ⟨_, _, _, h5⟩ := it.kids (by omega)
      obtain ⟨A, c, A', c', h2, h3⟩ := h5 i hi
      exact ⟨A, c, A', c', h2.keep (hgr.block _ h2.lt (hkid i hi).2.2.1), h3⟩
  · rcases List.mem_append.1 he with h1 | h1
    · exact h.fit e (List.mem_append_left _ h1)
    · obtain ⟨i, hi, rfl⟩ := kidN_mem h1
      exact fitL_at ((fitB_eq _).1 (h.fit p hp)).2 hi
  · rcases List.mem_append.1 he with h1 | h1
    · have := h.ng e (List.mem_append_left _ h1)
      have := hEl e h1
      exact ⟨by omega, by omega⟩
    · obtain ⟨i, hi, rfl⟩ := kidN_mem h1
      have := hkid i hi
      exact ⟨this.2.2.2, by show gk ≠ _; omega⟩
  · refine List.pairwise_append.2 ⟨(List.pairwise_append.1 h.ap).1, ?_, fun e he f hf => ?_⟩
    · unfold kidN
      rw [List.pairwise_map]
      refine List.Pairwise.imp ?_ List.pairwise_lt_range
      intro i j hij
      exact .inr (.inl (by show i * 11 + 11 ≤ j * 11; omega))
    · obtain ⟨i, hi, rfl⟩ := kidN_mem hf
      have := hkid i hi
      have := hEl e he
      exact .inl (by show e.1 ≠ gk; omega)
  · have hpn := (h.ng p hp).2
    have hle : w.heap.size + 1 < wr.heap.size := by omega
    rw [hgr.block _ (by omega) (by omega), it.block _ hle (fun e => hpn e.symm)]
    exact h.res
  · exact hgr.below it.bel (by omega) (by omega)
  · omega
  · refine h.fin wf (Fin.step (gk := gk) (W' := W') (g' := g') (c := ck) (c' := c3) (B := A3) (Ak := Ak) (by omega) hpl (h.ng p hp).1 (by have := (h.ng p hp).1; omega) (by omega) (it.own.keep (hgr.block _ it.own.lt (h.ng p hp).1)) (fun h0 => (it.kids h0).1) (fun k off hk hkg hn => ?_) hgg (fun h0 => ?_) (fun h0 => ?_) hapE hEl hlens hwf)
    · rw [hgr.cell (by omega) hkg, it.cell k off hk hn]
    · have := hkid 0 h0
      omega
    · obtain ⟨b, off, e, h1, h2, h3, h4⟩ := it.src h0
      refine ⟨b, off, e, h1, by omega, by omega, h3, fun k hk => ?_⟩
      rw [hgr.cell h2 (by omega)]
      exact h4 k hk
end Go.Proofs.Ytjckbdbjcgjcaaa
/- Deep copies: one round's copying. -/
namespace Go.Proofs.Ytjckbdbjcgjcaaa
open Go.RowKit Go.Deep
def kidCell (l : List Bx) (K : Nat → Option Addr) (C : Nat → Nat) (K' : Nat → Option Addr) (C' : Nat → Nat) (q : Nat) : Value := ((bxA (kidAt l (q / 11)) (K (q / 11)) (C (q / 11)) (K' (q / 11)) (C' (q / 11)))[q % 11]?).getD (.int .i64 0)
def kidCells (l : List Bx) (K : Nat → Option Addr) (C : Nat → Nat) (K' : Nat → Option Addr) (C' : Nat → Nat) : List Value := (List.range (l.length * 11)).map (kidCell l K C K' C')
theorem kidCells_len (l : List Bx) (K : Nat → Option Addr) (C : Nat → Nat) (K' : Nat → Option Addr) (C' : Nat → Nat) : (kidCells l K C K' C').length = l.length * 11 := by simp [kidCells]
theorem bxA_some (t : Bx) (A : Option Addr) (c : Nat) (A' : Option Addr) (c' : Nat) {j : Nat} (hj : j < 11) : (bxA t A c A' c')[j]? = some (((bxA t A c A' c')[j]?).getD (.int .i64 0)) := by
  have : j < (bxA t A c A' c').size := hj
  rw [Array.getElem?_eq_getElem this]
  rfl
theorem kidCells_at {l : List Bx} (K : Nat → Option Addr) (C : Nat → Nat) (K' : Nat → Option Addr) (C' : Nat → Nat) {i j : Nat} (hi : i < l.length) (hj : j < 11) : (kidCells l K C K' C')[i * 11 + j]? = (bxA (kidAt l i) (K i) (C i) (K' i) (C' i))[j]? := by
  have h1 : i * 11 + j < l.length * 11 := by omega
  have h2 : (i * 11 + j) / 11 = i := by omega
  have h3 : (i * 11 + j) % 11 = j := by omega
  unfold kidCells
  rw [List.getElem?_map, List.getElem?_range h1]
  show some (kidCell l K C K' C' (i * 11 + j)) = _
  unfold kidCell
  rw [h2, h3]
  exact (bxA_some _ _ _ _ _ hj).symm
theorem kidCells_of {l : List Bx} {K : Nat → Option Addr} {C : Nat → Nat} {K' : Nat → Option Addr} {C' : Nat → Nat} {q : Nat} {v : Value} (h : (kidCells l K C K' C')[q]? = some v) : q / 11 < l.length ∧ (bxA (kidAt l (q / 11)) (K (q / 11)) (C (q / 11)) (K' (q / 11)) (C' (q / 11)))[q % 11]? = some v := by
  have hq := (List.getElem?_eq_some_iff.1 h).1
  rw [kidCells_len] at hq
  have h1 : q / 11 < l.length := by omega
  have h2 := kidCells_at (l := l) K C K' C' (i := q / 11) (j := q % 11) h1 (by omega)
  rw [show q / 11 * 11 + q % 11 = q by omega, h] at h2
  exact ⟨h1, h2.symm⟩
theorem kidCells_one {l : List Bx} {K : Nat → Option Addr} {C : Nat → Nat} {K' : Nat → Option Addr} {C' : Nat → Nat} : ∀ v ∈ kidCells l K C K' C', v.oneCell' = true := fun v hv => by
  obtain ⟨q, hq⟩ := List.mem_iff_getElem?.1 hv
  obtain ⟨_, h⟩ := kidCells_of hq
  rw [← Array.getElem?_toList] at h
  exact bxA_one _ _ _ _ _ v (List.mem_iff_getElem?.2 ⟨_, h⟩)
section
variable {w wr w1 : World} {p : Node} {A1 : Option Addr} {c1 : Nat} {A2 : Option Addr} {c2 : Nat} {A3 : Option Addr} {c3 : Nat}
theorem setCell_cell {W : World} {b k : Nat} (v : Value) {k' off : Nat} (h : ¬ (k' = b ∧ off = k)) : (W.setCell ⟨b, k, none⟩ v).cell? ⟨k', off, none⟩ = W.cell? ⟨k', off, none⟩ := by
  by_cases e : k' = b
  · subst e
    have h2 : off ≠ k := fun e => h ⟨rfl, e⟩
    simp only [World.setCell, World.cell?, Array.getElem?_modify]
    cases hb : W.heap[k']? with
    | none => simp
    | some o => cases o <;> simp [Array.getElem?_setIfInBounds_ne (Ne.symm h2)]
  · exact cell_of_heap (Below.heap_setCell W ⟨b, k, none⟩ v k' e)
/-- The two stores. -/
abbrev W2of (w1 : World) (p : Node) (A3 : Option Addr) (c3 : Nat) : World := (w1.setCell ⟨p.1, p.2.1 + 10, none⟩ (.slice A3 p.2.2.src.length c3)).setCell ⟨p.1, p.2.1 + 8, none⟩ (.slice none 0 0)
theorem w2_in (hp : In w1 p.1 p.2.1 (bxA p.2.2 A1 c1 A2 c2)) : In (W2of w1 p A3 c3) p.1 p.2.1 #[.int .i64 p.2.2.k, .string p.2.2.nm, .int .i64 p.2.2.sz, .int .i64 p.2.2.w, .int .i64 p.2.2.h, .int .i64 p.2.2.d, .int .i64 p.2.2.x, .int .i64 p.2.2.y, .slice none 0 0, .int .i64 p.2.2.of_, .slice A3 p.2.2.src.length c3] :=
  (hp.store (k := 10) (show 10 < 11 by omega) (.slice A3 p.2.2.src.length c3)).store (k := 8) (by rw [Array.size_setIfInBounds]; exact (show 8 < 11 by omega)) (.slice none 0 0)
theorem not_hit {p : Node} {k off : Nat} (h : ¬ Hit [p] k off) : ¬ (k = p.1 ∧ off = p.2.1 + 10) ∧ ¬ (k = p.1 ∧ off = p.2.1 + 8) :=
  ⟨fun e => h ⟨p, by simp, e.1.symm, .inr e.2⟩, fun e => h ⟨p, by simp, e.1.symm, .inl e.2⟩⟩
theorem apart_aside {e p : Node} (h : Apart e p) {W : World} {arr : Array Value} (ha : arr.size = 11) {j : Nat} (hj : j < 11) (v : Value) (hi : In W e.1 e.2.1 arr) : In (W.setCell ⟨p.1, p.2.1 + j, none⟩ v) e.1 e.2.1 arr :=
  hi.aside (p := (p.1, p.2.1 + j)) (by unfold Apart at h; show p.1 ≠ e.1 ∨ p.2.1 + j < e.2.1 ∨ e.2.1 + arr.size ≤ p.2.1 + j; omega)
theorem it0 (hp : In wr p.1 p.2.1 (bxA p.2.2 A1 c1 A2 c2)) (hn : p.2.2.kids.length = 0) (hb1 : Below wr.heap.size wr w1) (hI : Ints w1 wr.heap.size w1.heap.size A3 p.2.2.src) (hbel : Below w.heap.size w wr) (hbase : w.heap.size ≤ p.1) : It w wr (W2of w1 p A3 c3) p 0 none 0 A3 c3 := by
  have hpl := hp.lt
  have hp1 : In w1 p.1 p.2.1 (bxA p.2.2 A1 c1 A2 c2) := hp.keep (hb1.block _ hpl)
  refine ⟨by simpa [W2of] using hb1.size, ?_, fun e he arr ha h => ?_, fun k off hk hn => ?_, fun k hk hn => ?_, fun h0 => absurd h0 (by omega), fun h0 => ?_, ?_⟩
  · have := w2_in (A3 := A3) (c3 := c3) hp1
    rw [show bxA p.2.2 none 0 A3 c3 = _ from by unfold bxA; rw [hn]]
    exact this
  · exact apart_aside he ha (by omega) _ (apart_aside he ha (by omega) _ (h.keep (hb1.block _ h.lt)))
  · obtain ⟨h1, h2⟩ := not_hit hn
    rw [setCell_cell _ h2, setCell_cell _ h1]
    exact hb1.cell (p := ⟨k, off, none⟩) hk
  · rw [Below.heap_setCell _ _ _ _ hn, Below.heap_setCell _ _ _ _ hn]
    exact hb1.block k hk
  · obtain ⟨b, off, e, h1, h2, h3⟩ := hI h0
    refine ⟨b, off, e, h1, by simpa [W2of] using h2, fun h => absurd h (by omega), fun k hk => ?_⟩
    rw [setCell_cell _ (fun e => by omega), setCell_cell _ (fun e => by omega)]
    exact h3 k hk
  · have hh : Below w.heap.size w w1 := hbel.trans (hb1.mono hbel.size)
    exact (hh.setCell (p := ⟨p.1, p.2.1 + 10, none⟩) hbase _).setCell (p := ⟨p.1, p.2.1 + 8, none⟩) hbase _
theorem w3_facts (hp : In wr p.1 p.2.1 (bxA p.2.2 A1 c1 A2 c2)) (hb1 : Below wr.heap.size wr w1) (hbel : Below w.heap.size w wr) (hbase : w.heap.size ≤ p.1) (zs : Array Value) (ty : TypeId) (v : Value) :
    ((W2of w1 p A3 c3).alloc (.cells zs ty)).cell? ⟨p.1, p.2.1 + 8, none⟩ = some (.slice none 0 0) ∧ ((W2of w1 p A3 c3).alloc (.cells zs ty)).frozen? ⟨p.1, p.2.1 + 8, none⟩ = false ∧
    (((W2of w1 p A3 c3).alloc (.cells zs ty)).setCell ⟨p.1, p.2.1 + 8, none⟩ v).cell? ⟨p.1, p.2.1 + 8, none⟩ = some v ∧
    (((W2of w1 p A3 c3).alloc (.cells zs ty)).setCell ⟨p.1, p.2.1 + 8, none⟩ v).heap[w1.heap.size]? = some (.cells zs ty (0, 0)) ∧ Below w.heap.size w (((W2of w1 p A3 c3).alloc (.cells zs ty)).setCell ⟨p.1, p.2.1 + 8, none⟩ v) := by
  have hpl := hp.lt
  have hs1 := hb1.size
  have hs2 : (W2of w1 p A3 c3).heap.size = w1.heap.size := by simp [W2of]
  have hp1 : In w1 p.1 p.2.1 (bxA p.2.2 A1 c1 A2 c2) := hp.keep (hb1.block _ hpl)
  have h2 := (w2_in (A3 := A3) (c3 := c3) hp1).keep (W' := (W2of w1 p A3 c3).alloc (.cells zs ty)) (Below.heap_alloc _ _ _ (by omega))
  have h8 : ((W2of w1 p A3 c3).alloc (.cells zs ty)).cell? ⟨p.1, p.2.1 + 8, none⟩ = some (.slice none 0 0) := h2.cell (j := 8) (show 8 < 11 by omega)
  have hnew : ((W2of w1 p A3 c3).alloc (.cells zs ty)).heap[w1.heap.size]? = some (.cells zs ty (0, 0)) := by rw [← hs2]; exact blk_new _ _
  refine ⟨h8, h2.free _, World.cell?_setCell_same' _ _ _ (by rw [h8]; rfl), blk_far hnew (p := ⟨p.1, p.2.1 + 8, none⟩) (by show w1.heap.size ≠ p.1; omega) _, ?_⟩
  have hh : Below w.heap.size w w1 := hbel.trans (hb1.mono hbel.size)
  have h3 := (hh.setCell (p := ⟨p.1, p.2.1 + 10, none⟩) hbase (.slice A3 p.2.2.src.length c3)).setCell (p := ⟨p.1, p.2.1 + 8, none⟩) hbase (.slice none 0 0)
  exact (h3.alloc (by have := hbel.size; show w.heap.size ≤ (W2of w1 p A3 c3).heap.size; omega) (.cells zs ty)).setCell (p := ⟨p.1, p.2.1 + 8, none⟩) hbase v
/-- A row that is copied whole. -/
theorem row_copy (cs : List Value) (zs : Array Value) (h : zs.size = cs.length) : (zs.toList.take 0 ++ (cs ++ zs.toList.drop (0 + cs.length))).toArray = cs.toArray := by
  rw [List.drop_eq_nil_of_le (by simp; omega)]
  simp
theorem kids_out {lo hi : Nat} {W : World} {A : Option Addr} {l : List Bx} (h : Kids W lo hi A l) : ∃ (K : Nat → Option Addr) (C : Nat → Nat) (K' : Nat → Option Addr) (C' : Nat → Nat), (0 < l.length → ∃ b off, A = some ⟨b, off, none⟩ ∧ lo ≤ b ∧ b < hi ∧ ∀ i, i < l.length → ∀ j, j < 11 → W.cell? ⟨b, off + i * 11 + j, none⟩ = (bxA (kidAt l i) (K i) (C i) (K' i) (C' i))[j]?) ∧ (∀ i, i < l.length → Kids W lo hi (K i) (kidAt l i).kids ∧ Ints W lo hi (K' i) (kidAt l i).src ∧ lens (kidAt l i)) := by
  cases h with
  | mk _ _ K K' C C' hA hS hN hK => exact ⟨K, C, K', C', hA, fun i hi => ⟨hK i hi, hS i hi, hN i hi⟩⟩
theorem kid_src {W : World} {b off : Nat} {l : List Bx} {K : Nat → Option Addr} {C : Nat → Nat} {K' : Nat → Option Addr} {C' : Nat → Nat} (h : ∀ i, i < l.length → ∀ j, j < 11 → W.cell? ⟨b, off + i * 11 + j, none⟩ = (bxA (kidAt l i) (K i) (C i) (K' i) (C' i))[j]?) (j : Nat) (v : Value) (hv : (kidCells l K C K' C')[j]? = some v) : W.cell? ((⟨b, off, none⟩ : Addr).add j) = some v := by
  obtain ⟨h1, h2⟩ := kidCells_of hv
  rw [show (⟨b, off, none⟩ : Addr).add j = ⟨b, off + j, none⟩ by unfold Addr.add; split <;> simp_all, show off + j = off + j / 11 * 11 + j % 11 by omega, h _ h1 _ (by omega)]
  exact h2
/-- What a round with kids leaves. -/
abbrev W4of (w1 : World) (p : Node) (A3 : Option Addr) (c3 n : Nat) (zs cs : Array Value) (ty : TypeId) : World :=
  (((W2of w1 p A3 c3).alloc (.cells zs ty)).setCell ⟨p.1, p.2.1 + 8, none⟩ (.slice (some ⟨w1.heap.size, 0, none⟩) n n)).setRow w1.heap.size cs
theorem it1 {n : Nat} {zs cs : Array Value} {ty : TypeId} {K K' : Nat → Option Addr} {C C' : Nat → Nat} (hp : In wr p.1 p.2.1 (bxA p.2.2 A1 c1 A2 c2)) (hn : p.2.2.kids.length = n) (hb1 : Below wr.heap.size wr w1) (hI : Ints w1 wr.heap.size w1.heap.size A3 p.2.2.src) (hbel : Below w.heap.size w wr) (hbase : w.heap.size ≤ p.1)
    (hcz : cs.size = n * 11) (hcs : ∀ i, i < n → ∀ j, j < 11 → cs[i * 11 + j]? = (bxA (kidAt p.2.2.kids i) (K i) (C i) (K' i) (C' i))[j]?) (hKK : ∀ i, i < n → Kids w 0 w.heap.size (K i) (kidAt p.2.2.kids i).kids ∧ Ints w 0 w.heap.size (K' i) (kidAt p.2.2.kids i).src ∧ lens (kidAt p.2.2.kids i)) :
    It w wr (W4of w1 p A3 c3 n zs cs ty) p w1.heap.size (some ⟨w1.heap.size, 0, none⟩) n A3 c3 := by
  have hpl := hp.lt
  have hs1 := hb1.size
  have hp1 : In w1 p.1 p.2.1 (bxA p.2.2 A1 c1 A2 c2) := hp.keep (hb1.block _ hpl)
  have hs2 : (W2of w1 p A3 c3).heap.size = w1.heap.size := by simp [W2of]
  have hnew : ((W2of w1 p A3 c3).alloc (.cells zs ty)).heap[w1.heap.size]? = some (.cells zs ty (0, 0)) := by rw [← hs2]; exact blk_new _ _
  have hgk : (((W2of w1 p A3 c3).alloc (.cells zs ty)).setCell ⟨p.1, p.2.1 + 8, none⟩ (.slice (some ⟨w1.heap.size, 0, none⟩) n n)).heap[w1.heap.size]? = some (.cells zs ty (0, 0)) := blk_far hnew (p := ⟨p.1, p.2.1 + 8, none⟩) (by show w1.heap.size ≠ p.1; omega) _
  have hgk4 : (W4of w1 p A3 c3 n zs cs ty).heap[w1.heap.size]? = some (.cells cs ty (0, 0)) := setRow_heap _ _ _ _ _ _ hgk
  have hsz4 : (W4of w1 p A3 c3 n zs cs ty).heap.size = w1.heap.size + 1 := by simp [W4of, W2of]
  have hold : ∀ k, k < w1.heap.size → ∀ off, ¬ (k = p.1 ∧ off = p.2.1 + 10) → ¬ (k = p.1 ∧ off = p.2.1 + 8) → (W4of w1 p A3 c3 n zs cs ty).cell? ⟨k, off, none⟩ = w1.cell? ⟨k, off, none⟩ := fun k hk off h1 h2 => by
    rw [cell_setRow_other _ _ _ _ (by show k ≠ w1.heap.size; omega), setCell_cell _ h2]
    rw [show ((W2of w1 p A3 c3).alloc (.cells zs ty)).cell? ⟨k, off, none⟩ = (W2of w1 p A3 c3).cell? ⟨k, off, none⟩ from cell_of_heap (Below.heap_alloc _ _ _ (by omega))]
    rw [setCell_cell _ h2, setCell_cell _ h1]
  have hoth : ∀ e : Node, e.1 < w1.heap.size → ∀ arr : Array Value, In (W2of w1 p A3 c3) e.1 e.2.1 arr → In ((W2of w1 p A3 c3).alloc (.cells zs ty)) e.1 e.2.1 arr := fun e he arr h => h.keep (Below.heap_alloc _ _ _ (by omega))
  refine ⟨by omega, ?_, fun e he arr ha h => ?_, fun k off hk hn => ?_, fun k hk hn => ?_, fun h0 => ⟨rfl, hs1, by omega, fun i hi => ?_⟩, fun h0 => ?_, ?_⟩
  · have h1 := hoth p (by omega) _ (w2_in (A3 := A3) (c3 := c3) hp1)
    have h2 := (h1.store (k := 8) (show 8 < 11 by omega) (.slice (some ⟨w1.heap.size, 0, none⟩) n n)).keep (setRow_other _ w1.heap.size _ cs (by omega))
    rw [show bxA p.2.2 (some ⟨w1.heap.size, 0, none⟩) n A3 c3 = _ from by unfold bxA; rw [hn]]
    exact h2
  · have h1 := apart_aside he ha (j := 8) (by omega) (.slice none 0 0) (apart_aside he ha (j := 10) (by omega) (.slice A3 p.2.2.src.length c3) (h.keep (hb1.block _ h.lt)))
    have hl := h.lt
    have h2 := hoth e (by omega) _ h1
    exact (apart_aside he ha (j := 8) (by omega) (.slice (some ⟨w1.heap.size, 0, none⟩) n n) h2).keep (setRow_other _ w1.heap.size _ cs (by omega))
  · obtain ⟨h1, h2⟩ := not_hit hn
    rw [hold k (by omega) off h1 h2]
    exact hb1.cell (p := ⟨k, off, none⟩) hk
  · rw [setRow_other _ _ _ _ (by omega), Below.heap_setCell _ _ _ _ hn, Below.heap_alloc _ _ _ (by omega), Below.heap_setCell _ _ _ _ hn, Below.heap_setCell _ _ _ _ hn]
    exact hb1.block k hk
  · obtain ⟨h1, h2, h3⟩ := hKK i (by omega)
    refine ⟨K i, C i, K' i, C' i, ⟨cs, ty, hgk4, ?_, fun j hj => hcs i (by omega) j hj⟩, h1, h2, h3, ?_⟩
    · show i * 11 + 11 ≤ cs.size
      rw [hcz]
      rw [hn] at hi
      omega
    · have := hbel.size
      show w.heap.size ≤ w1.heap.size
      omega
  · obtain ⟨b, off, e, h1, h2, h3⟩ := hI h0
    refine ⟨b, off, e, h1, by omega, fun _ => by omega, fun k hk => ?_⟩
    rw [hold b h2 _ (fun e => by omega) (fun e => by omega)]
    exact h3 k hk
  · have hh : Below w.heap.size w w1 := hbel.trans (hb1.mono hbel.size)
    have h2 := (hh.setCell (p := ⟨p.1, p.2.1 + 10, none⟩) hbase (.slice A3 p.2.2.src.length c3)).setCell (p := ⟨p.1, p.2.1 + 8, none⟩) hbase (.slice none 0 0)
    have h3 := (h2.alloc (by have := hbel.size; show w.heap.size ≤ (W2of w1 p A3 c3).heap.size; omega) (.cells zs ty)).setCell (p := ⟨p.1, p.2.1 + 8, none⟩) hbase (.slice (some ⟨w1.heap.size, 0, none⟩) n n)
    exact below_setRow h3 (by have := hbel.size; omega) _
end
end Go.Proofs.Ytjckbdbjcgjcaaa
/- The least number with a property: a loop's measure where no slot counts. -/
namespace Go.Proofs.Ytjckbdbjcgjcaaa
theorem exists_least {p : Nat → Prop} (h : ∃ n, p n) : ∃ n, p n ∧ ∀ m, p m → n ≤ m := by
  obtain ⟨n, hn⟩ := h
  induction n using Nat.strongRecOn with
  | ind n ih =>
    by_cases hm : ∃ m, m < n ∧ p m
    · obtain ⟨m, h1, h2⟩ := hm
      exact ih m h1 h2
    · exact ⟨n, hn, fun m h => by
        rcases Nat.lt_or_ge m n with h1 | h1
        · exact absurd ⟨m, h1, h⟩ hm
        · exact h1⟩
open Classical in
noncomputable def leastN (p : Nat → Prop) : Nat := if h : ∃ n, p n then (exists_least h).choose else 0
theorem leastN_at {p : Nat → Prop} (h : ∃ n, p n) : p (leastN p) := by
  unfold leastN
  rw [dif_pos h]
  exact (exists_least h).choose_spec.1
theorem leastN_le {p : Nat → Prop} {n : Nat} (h : p n) : leastN p ≤ n := by
  unfold leastN
  rw [dif_pos ⟨n, h⟩]
  exact (exists_least ⟨n, h⟩).choose_spec.2 n h
end Go.Proofs.Ytjckbdbjcgjcaaa
/- deep.Box: the walk. -/
namespace Go.Proofs.Ytjckbdbjcgjcaaa
open Go.RowKit Go.Deep
theorem make_boxes (n : Nat) (hn : n ≤ 100000) (W : World) : (Instr.makeSlice 22 (.int .i64 (n : Int)) (.int .i64 (n : Int))).run Try.prog W =
    .ok (.slice (some ⟨W.heap.size, 0, none⟩) n n) (W.alloc (.cells (madeCells zeroBox (n * 11)) 28)) := by
  obtain ⟨i, hi, hz, hs, hb⟩ := info_parts infoBox
  have h := run_make (P := Try.prog) W 22 28 i (.agg zeroBox) Try.underlying22 hi hz .i64 .i64 (n : Int) (n : Int) (by omega) (by omega) (by rw [hb]; omega) (by omega)
  rw [hs, show ((n : Int)).toNat = n by omega] at h
  exact h
set_option maxHeartbeats 1000000 in
/-- Clone, whatever the length that the reach allows. -/
theorem clone_fit (A : Option Addr) (c : Nat) (l : List Int) (w : World) (hl : l.length ≤ 17592186044416) (hI : Ints w 0 w.heap.size A l) :
    Calls Try.prog 69 #[.slice A l.length c] w fun e w' => (∃ A' c', e = .returned (.slice A' l.length c') ∧ Ints w' w.heap.size w'.heap.size A' l ) ∧ Below w.heap.size w w' := by
  obtain ⟨i0, hi0, hz0, hz1, hz2⟩ := info_parts infoI
  have HI := Lib.hid hI
  have hE := fun W => Lib.run_eql_slice_nil (P := Try.prog) W 26 3 A l.length c 0 0 Try.underlying26
  clear hI
  cases A with
  | none =>
    have h1 : l.length = 0 := by
      rcases Nat.eq_zero_or_pos l.length with h | h
      · exact h
      · obtain ⟨_, _, e, _⟩ := HI.out h
        cases e
    have HL := Lib.hid h1
    rw [h1] at hE ⊢
    clear h1
    go_enter Try.func69, Try.ntmps69
    go_wp2
    go_ret
    exact ⟨⟨none, 0, rfl, fun h => absurd h (by have := HL.out; omega)⟩, Below.refl _ _⟩
  | some a =>
    go_enter Try.func69, Try.ntmps69
    go_wp2_with (at_builtin; refine wpList_append_copy rfl _ _ 26 3 rfl i0 _ 1 8 Try.underlying26 hi0 hz0 hz1 hz2 rfl (by decide) rfl rfl (heap_alloc_new _ _) (intV l) (by simp [intV]) (ints_src (HI.out.next (one_below _ _))) (fun u hu => by unfold intV at hu; obtain ⟨x, _, rfl⟩ := List.mem_map.1 hu; rfl) (by unfold maxLen; omega) (by omega) ?_; intro A2 c2 w2 hcp hb2; have HCP := Lib.hid hcp; have HB2 := Lib.hid hb2; clear hcp hb2)
    go_ret
    exact ⟨⟨A2, c2, rfl, ints_copied HCP.out⟩, (one_below _ _).trans HB2.out⟩
/-- A copy of nothing. -/
theorem run_copy_zero {P : Program} {w : World} (dT sT ty elem : TypeId) (A : Option Addr) (c : Nat) (hu : P.underlying dT = some (.slice elem)) (hs : ((P.info? elem).map (·.size)).isSome = true) :
    (Builtin.copy_ #[dT, sT] ty #[.slice none 0 0, .slice A 0 c]).run P w = .ok (goInt 0) w := by
  cases hq : P.info? elem with
  | none => simp [hq] at hs
  | some i => cases A <;> simp [Builtin.copy_, run_underlying hu, Builtin.lenOf, Builtin.firstCells, sizeOf, typeInfo, hq, loadCells, loadCellsFrom]
theorem wpList_copy_zero {P : Program} {w : World} {ops : Array Oper} {rest : List Oper} {o : Oper} {a : Act} {Q : Exit → Act → World → Prop} (hgd : o.guard = none) (d s : Operand) (dT sT : TypeId)
    (ho : o.op = .call { callee := .builtin .copy, args := #[d, s], argTypes := #[dT, sT] }) (elem : TypeId) (hu : P.underlying dT = some (.slice elem)) (hsz : ((P.info? elem).map (·.size)).isSome = true) (A : Option Addr) (c : Nat) (hd : a.eval d = .slice none 0 0) (hs : a.eval s = .slice A 0 c)
    (h : wpList P ops Q rest (a.put o.dst (goInt 0)) w) : wpList P ops Q (o :: rest) a w := by
  refine wpList_plain hgd fun K hK => ?_
  have hrun := run_copy_zero (P := P) (w := w) dT sT o.type elem A c hu hsz
  unfold Oper.wp
  simp only [execOp, ho, resolve, invoke, builtin, Sem.run_bind, Sem.run_pure, Result.andThen_ok, List.map_toArray, List.map_cons, List.map_nil, hd, hs, hrun]
  exact hK _ _ h
theorem own_keep {w w' : World} {base n c size g : Nat} {e : TypeId} {xs : List Value} (h : w.ownsRow base e size (.slice (some ⟨g, 0, none⟩) n c) n xs) (hb : w'.heap[g]? = w.heap[g]?) : w'.ownsRow base e size (.slice (some ⟨g, 0, none⟩) n c) n xs := by
  obtain ⟨h1, h2⟩ := h
  refine ⟨h1, ?_⟩
  rcases h2 with ⟨h3, _⟩ | ⟨g', cap, cur, h3, h4, h5, h6⟩
  · cases h3
  · injection h3 with e1 e2 e3
    injection e1 with e1
    injection e1 with e1
    subst e1 e3
    exact .inr ⟨_, _, cur, rfl, h4, hb.trans h5, h6⟩
def ptrN (e : Node) : Value := .pointer (some ⟨e.1, e.2.1, none⟩)
def cntN : List Node → Nat
  | [] => 0
  | e :: es => cntB e.2.2 + cntN es
theorem cntN_append : ∀ a b : List Node, cntN (a ++ b) = cntN a + cntN b
  | [], b => by simp [cntN]
  | t :: ts, b => by simp [cntN, cntN_append ts b]; omega
theorem cntN_len : ∀ a : List Node, a.length ≤ cntN a
  | [] => by simp [cntN]
  | t :: ts => by have := cntN_len ts; have := cntB_pos t.2.2; simp [cntN]; omega
theorem cntN_one (e : Node) : cntN [e] = cntB e.2.2 := by simp [cntN]
theorem cntN_take (gk : Nat) (l : List Bx) : ∀ n, n ≤ l.length → cntN ((List.range n).map fun i => (gk, i * 11, kidAt l i)) = cntL (l.take n)
  | 0, _ => by simp [cntN, cntL_nil]
  | n + 1, h => by
    rw [List.range_succ, List.map_append, cntN_append, cntN_take gk l n (by omega), cnt_take l (by omega)]
    simp [cntN]
theorem cntN_kidN (gk : Nat) (l : List Bx) : cntN (kidN gk l) = cntL l := by
  have := cntN_take gk l l.length (Nat.le_refl _)
  rwa [List.take_length] at this
def kp (gk i : Nat) : List Value := (List.range i).map fun j => .pointer (some ⟨gk, j * 11, none⟩)
theorem kp_zero (gk : Nat) : kp gk 0 = [] := rfl
theorem kp_succ (gk i : Nat) : kp gk (i + 1) = kp gk i ++ [.pointer (some ⟨gk, i * 11, none⟩)] := by simp [kp, List.range_succ]
theorem kp_kidN (gk : Nat) (l : List Bx) : (kidN gk l).map ptrN = kp gk l.length := by simp [kp, kidN, ptrN, Function.comp_def]
theorem kidN_len (gk : Nat) (l : List Bx) : (kidN gk l).length = l.length := by simp [kidN]
/-- The loop's relation, with the number of boxes that are still to be copied. -/
def RD (w Wi : World) (t : Bx) (N : Nat) (l : Value) (wr : World) : Prop :=
  ∃ (E : List Node) (g cp : Nat), l = .slice (some ⟨g, 0, none⟩) E.length cp ∧ wr.ownsRow (w.heap.size + 2) 81 1 (.slice (some ⟨g, 0, none⟩) E.length cp) E.length (E.map ptrN) ∧ DS w Wi t E g wr ∧ cntN E = N ∧ N ≤ 100000
end Go.Proofs.Ytjckbdbjcgjcaaa
/- Stacks of pairs of pointers to boxes. -/
namespace Go.Proofs.Ytjckbdbjcgjcaaa
open Go.RowKit
def PStk (W : World) (hi : Nat) : List Value → List (Bx × Bx) → Prop
  | [], [] => True
  | p :: q :: vs, t :: ts => Ent W hi p t.1 ∧ Ent W hi q t.2 ∧ PStk W hi vs ts
  | _, _ => False
theorem PStk.len {W : World} {hi : Nat} : ∀ {vs : List Value} {ts : List (Bx × Bx)}, PStk W hi vs ts → vs.length = ts.length * 2
  | [], [], _ => rfl
  | p :: q :: vs, t :: ts, h => by have := PStk.len h.2.2; simp [this]; omega
  | [], _ :: _, h => h.elim
  | [_], _ :: _, h => h.elim
  | [_], [], h => h.elim
  | _ :: _ :: _, [], h => h.elim
theorem PStk.append {W : World} {hi : Nat} : ∀ {vs : List Value} {ts : List (Bx × Bx)} {vs' : List Value} {ts' : List (Bx × Bx)}, PStk W hi vs ts → PStk W hi vs' ts' → PStk W hi (vs ++ vs') (ts ++ ts')
  | [], [], _, _, _, h => h
  | _p :: _q :: _vs, _t :: _ts, _, _, h, h' => ⟨h.1, h.2.1, PStk.append h.2.2 h'⟩
  | [], _ :: _, _, _, h, _ => h.elim
  | [_], _ :: _, _, _, h, _ => h.elim
  | [_], [], _, _, h, _ => h.elim
  | _ :: _ :: _, [], _, _, h, _ => h.elim
theorem PStk.one {W : World} {hi : Nat} {p q : Value} {t u : Bx} (h : Ent W hi p t) (h' : Ent W hi q u) : PStk W hi [p, q] [(t, u)] := ⟨h, h', trivial⟩
theorem PStk.last {W : World} {hi : Nat} : ∀ {vs : List Value} {ts : List (Bx × Bx)}, PStk W hi vs ts → 0 < ts.length → ∃ vs' p q ts' t u, vs = vs' ++ [p, q] ∧ ts = ts' ++ [(t, u)] ∧ PStk W hi vs' ts' ∧ Ent W hi p t ∧ Ent W hi q u
  | [], [], _, h0 => absurd h0 (by simp)
  | [p, q], [t], h, _ => ⟨[], p, q, [], t.1, t.2, rfl, rfl, trivial, h.1, h.2.1⟩
  | p :: q :: p2 :: q2 :: vs, t :: t2 :: ts, h, _ => by
    obtain ⟨vs', x, y, ts', a, b, e1, e2, h1, h2, h3⟩ := PStk.last h.2.2 (by simp)
    exact ⟨p :: q :: vs', x, y, t :: ts', a, b, by rw [e1]; rfl, by rw [e2]; rfl, ⟨h.1, h.2.1, h1⟩, h2, h3⟩
  | [], _ :: _, h, _ => h.elim
  | [_], _ :: _, h, _ => h.elim
  | [_], [], h, _ => h.elim
  | _ :: _ :: _, [], h, _ => h.elim
  | [_, _], _ :: _ :: _, h, _ => h.2.2.elim
  | [_, _, _], [_], h, _ => h.2.2.elim
  | [_, _, _], _ :: _ :: _, h, _ => h.2.2.elim
  | _ :: _ :: _ :: _ :: _, [_], h, _ => h.2.2.elim
/-- The pairs of the first n kids. -/
def PZ (l1 l2 : List Bx) : Nat → List (Bx × Bx)
  | 0 => []
  | n + 1 => PZ l1 l2 n ++ [(kidAt l1 n, kidAt l2 n)]
theorem PZ_len (l1 l2 : List Bx) : ∀ n, (PZ l1 l2 n).length = n
  | 0 => rfl
  | n + 1 => by simp [PZ, PZ_len l1 l2 n]
def cntP : List (Bx × Bx) → Nat
  | [] => 0
  | t :: ts => cntB t.1 + cntP ts
theorem cntP_append : ∀ a b : List (Bx × Bx), cntP (a ++ b) = cntP a + cntP b
  | [], b => by simp [cntP]
  | t :: ts, b => by simp [cntP, cntP_append ts b]; omega
theorem cntP_len : ∀ a : List (Bx × Bx), a.length ≤ cntP a
  | [] => by simp [cntP]
  | t :: ts => by have := cntP_len ts; have := cntB_pos t.1; simp [cntP]; omega
theorem cntP_one (t u : Bx) : cntP [(t, u)] = cntB t := by simp [cntP]
theorem cntP_PZ (l1 l2 : List Bx) : ∀ n, n ≤ l1.length → cntP (PZ l1 l2 n) = cntL (l1.take n)
  | 0, _ => by simp [PZ, cntP, cntL_nil]
  | n + 1, h => by rw [PZ, cntP_append, cntP_PZ l1 l2 n (by omega), cnt_take l1 (by omega), cntP_one]
theorem PZ_all (l1 l2 : List Bx) : ∀ n, (∀ p ∈ PZ l1 l2 n, p.1 = p.2) ↔ ∀ k, k < n → kidAt l1 k = kidAt l2 k
  | 0 => by simp [PZ]
  | n + 1 => by
    constructor
    · intro h k hk
      rcases Nat.lt_succ_iff_lt_or_eq.1 hk with h1 | rfl
      · exact (PZ_all l1 l2 n).1 (fun p hp => h p (List.mem_append_left _ hp)) k h1
      · exact h (kidAt l1 k, kidAt l2 k) (List.mem_append_right _ (by simp))
    · intro h p hp
      rcases List.mem_append.1 hp with h1 | h1
      · exact (PZ_all l1 l2 n).2 (fun k hk => h k (by omega)) p h1
      · simp at h1
        subst h1
        exact h n (by omega)
/-- The pointers to the first n kids of both. -/
def pp (b1 o1 b2 o2 : Nat) : Nat → List Value
  | 0 => []
  | n + 1 => pp b1 o1 b2 o2 n ++ [.pointer (some ⟨b1, o1 + n * 11, none⟩), .pointer (some ⟨b2, o2 + n * 11, none⟩)]
theorem pp_stk {W : World} {hi : Nat} {b1 o1 b2 o2 : Nat} {l1 l2 : List Bx} (h1 : Kids W 0 hi (some ⟨b1, o1, none⟩) l1) (h2 : Kids W 0 hi (some ⟨b2, o2, none⟩) l2) : ∀ n, n ≤ l1.length → n ≤ l2.length → PStk W hi (pp b1 o1 b2 o2 n) (PZ l1 l2 n)
  | 0, _, _ => trivial
  | n + 1, hn, hm => by
    refine (pp_stk h1 h2 n (by omega) (by omega)).append (PStk.one ?_ ?_)
    · obtain ⟨b', off', A1, c1, A2, c2, e, _, hb, hat, hk, hi', hl⟩ := h1.at (show n < l1.length by omega)
      injection e with e1
      injection e1 with e2 e3
      subst e2 e3
      exact ⟨_, _, A1, c1, A2, c2, rfl, hb, hat, hk, hi', hl⟩
    · obtain ⟨b', off', A1, c1, A2, c2, e, _, hb, hat, hk, hi', hl⟩ := h2.at (show n < l2.length by omega)
      injection e with e1
      injection e1 with e2 e3
      subst e2 e3
      exact ⟨_, _, A1, c1, A2, c2, rfl, hb, hat, hk, hi', hl⟩
def ppA : Option Addr → Option Addr → Nat → List Value
  | some a, some b, n => pp a.block a.off b.block b.off n
  | _, _, _ => []
theorem ppA_zero (A B : Option Addr) : ppA A B 0 = [] := by cases A <;> cases B <;> rfl
theorem ppA_stk {W : World} {hi : Nat} {A B : Option Addr} {l1 l2 : List Bx} (h1 : Kids W 0 hi A l1) (h2 : Kids W 0 hi B l2) (hl : l1.length = l2.length) : PStk W hi (ppA A B l1.length) (PZ l1 l2 l1.length) := by
  by_cases h0 : 0 < l1.length
  · obtain ⟨b1, o1, _, _, _, _, rfl, _⟩ := h1.at h0
    obtain ⟨b2, o2, _, _, _, _, rfl, _⟩ := h2.at (i := 0) (by omega)
    exact pp_stk h1 h2 l1.length (Nat.le_refl _) (by omega)
  · have : l1.length = 0 := by omega
    rw [this, ppA_zero]
    exact trivial
theorem three_blocks (w : World) (cs ds es : Array Value) (t u v : TypeId) : (((w.alloc (.cells cs t)).alloc (.cells ds u)).alloc (.cells es v)).heap[w.heap.size]? = some (.cells cs t (0, 0)) ∧ (((w.alloc (.cells cs t)).alloc (.cells ds u)).alloc (.cells es v)).heap[w.heap.size + 1]? = some (.cells ds u (0, 0)) ∧
    (((w.alloc (.cells cs t)).alloc (.cells ds u)).alloc (.cells es v)).heap[w.heap.size + 2]? = some (.cells es v (0, 0)) ∧ (((w.alloc (.cells cs t)).alloc (.cells ds u)).alloc (.cells es v)).heap.size = w.heap.size + 3 ∧ Below w.heap.size w (((w.alloc (.cells cs t)).alloc (.cells ds u)).alloc (.cells es v)) := by
  obtain ⟨h1, h2, h3, h4⟩ := two_boxes w cs ds t u
  have := blk_new ((w.alloc (.cells cs t)).alloc (.cells ds u)) (.cells es v)
  rw [h3] at this
  exact ⟨blk_more h1 _, blk_more h2 _, this, by simp, h4.alloc (by omega) _⟩
/-- The append of one element, as one operation. -/
theorem oper_append_el {P : Program} {w : World} {o : Oper} {a : Act} {K : Act → World → Prop} {Q : Exit → Act → World → Prop} (s x : Operand) (t e : TypeId)
    (ho : o.op = .call { callee := .builtin .append, args := #[s, x], argTypes := #[t, t] }) (i : TypeInfo) (z : Value) (size bytes : Nat) (ht : P.underlying t = some (.slice e)) (hi : P.info? e = some i) (hz : i.zero = some z) (hsize : i.size = size) (hby : i.bytes = bytes) (hzs : z.cells.size = size) (hsz : 0 < size)
    {base c n : Nat} {A : Option Addr} {xs : List Value} (hs : a.eval s = .slice A n c) (hown : w.ownsRow base e size (.slice A n c) n xs) {g c1 : Nat} {news : Array Value} (hx : a.eval x = .slice (some ⟨g, 0, none⟩) 1 c1) (hg : w.heap[g]? = some (.cells news e (0, 0))) (hl : news.size = size) (h1 : ∀ u ∈ news.toList, u.oneCell' = true) (hn : n + 1 ≤ maxLen) (hb : (n + 1) * bytes ≤ 140737488355328) (hbase : base ≤ w.heap.size)
    (h : ∀ A' c' w', w'.ownsRow base e size (.slice A' (n + 1) c') (n + 1) (xs ++ news.toList) → Below base w w' → K (a.put o.dst (.slice A' (n + 1) c')) w') : o.wp P a w K Q := by
  obtain ⟨A', c', w', hrun, h2, h3⟩ := run_append_el (P := P) t o.type e i z size bytes ht hi hz hsize hby hzs hsz hown hg hl h1 hn hb hbase (c1 := c1)
  unfold Oper.wp execOp
  simp only [ho, resolve, invoke, builtin, Sem.run_bind, Sem.run_pure, Result.andThen_ok, List.map_toArray, List.map_cons, List.map_nil, hs, hx, hrun]
  exact h A' c' w' h2 h3
/-- The append of one element, as one step of a region that draws its order. -/
theorem step_append_el {P : Program} {ops : Array Oper} {w : World} {o : Oper} {a : Act} {K : Act → World → Prop} {Q : Exit → Act → World → Prop} {E : Prop} (hg : o.guard = none) (s x : Operand) (t e : TypeId)
    (ho : o.op = .call { callee := .builtin .append, args := #[s, x], argTypes := #[t, t] }) (i : TypeInfo) (z : Value) (size bytes : Nat) (ht : P.underlying t = some (.slice e)) (hi : P.info? e = some i) (hz : i.zero = some z) (hsize : i.size = size) (hby : i.bytes = bytes) (hzs : z.cells.size = size) (hsz : 0 < size)
    {base c n : Nat} {A : Option Addr} {xs : List Value} (hs : a.eval s = .slice A n c) (hown : w.ownsRow base e size (.slice A n c) n xs) {g c1 : Nat} {news : Array Value} (hx : a.eval x = .slice (some ⟨g, 0, none⟩) 1 c1) (hh : w.heap[g]? = some (.cells news e (0, 0))) (hl : news.size = size) (h1 : ∀ u ∈ news.toList, u.oneCell' = true) (hn : n + 1 ≤ maxLen) (hb : (n + 1) * bytes ≤ 140737488355328) (hbase : base ≤ w.heap.size)
    (h : ∀ A' c' w', w'.ownsRow base e size (.slice A' (n + 1) c') (n + 1) (xs ++ news.toList) → Below base w w' → K (a.put o.dst (.slice A' (n + 1) c')) w') :
    if Region.wanted o (yielded ops a.tmps) = true then Oper.wp P o a w K Q else E := by
  have hw : Region.wanted o (yielded ops a.tmps) = true := by simp [Region.wanted, hg]
  rw [if_pos hw]
  exact oper_append_el s x t e ho i z size bytes ht hi hz hsize hby hzs hsz hs hown hx hh hl h1 hn hb hbase h
end Go.Proofs.Ytjckbdbjcgjcaaa
