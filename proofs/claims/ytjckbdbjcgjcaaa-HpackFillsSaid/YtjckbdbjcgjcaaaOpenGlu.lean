/- How arguments that come in are read: slices of glue, of numbers. -/
import Derived.Test.YtjckbdbjcgjcaaaGluBase
import Derived.Deep.Slices
import Derived.Deep.Fields
import Derived.ChangeSame
import Derived.RangeFuncBox
import Derived.Lib.SmallJoins
import Derived.OpenShut
namespace Go.Proofs.Ytjckbdbjcgjcaaa.Gu
open Go.ChangeShapes Go.WideShapes Go.Deep Go.RowKit
instance : Inhabited Gl := ⟨⟨0, 0, 0, 0⟩⟩
section
variable {H : Type} {enc : TypeId × Value → H} {P : Program} {w : World} {base : Nat} {spare : Nat → Bool} {held : Bool}
theorem open_slice_fields {t e : TypeId} {fs : Array Field} {fuel : Nat} {cs : List Value} {x : DataW H × List MemPlace} (ht : P.underlying t = some (.slice e)) (he : P.underlying e = some (.struct fs))
    (hone : oneCellFields P fs = true) (hC : P.cellsOf e = fs.size) (h : DataW.trod enc P w base spare held fuel t cs = some x) :
    (cs = [.slice none 0 0] ∧ x = (.nil, [])) ∨
    ∃ (a : Addr) (len cap m : Nat), cs = [.slice (some a) len cap] ∧ len ≤ cap ∧ cap ≤ maxLen ∧ len ≤ m ∧
      ∀ i, i < m → ∃ (n : Nat), ∀ (j : Nat) (f : Field), fs[j]? = some f → ∃ (v : Value) (y : DataW H × List MemPlace), w.cell? (a.add (i * fs.size + j)) = some v ∧ DataW.trod enc P w base spare held n f.type [v] = some y := by
  rcases open_slice ht h with h0 | ⟨a, len, cap, m, n, D, Pl, hcs, hb, hl, hm, hmm, hx, hi⟩
  · exact .inl h0
  · refine .inr ⟨a, len, cap, m, hcs, hl, hm, by rw [hmm]; split <;> omega, fun i him => ?_⟩
    obtain ⟨cs', hc, ht'⟩ := hi i him
    rw [hC] at hc
    obtain ⟨ys, n', hn', hy, hlen, hyl, hf⟩ := DataW.trod_struct he ht'
    obtain ⟨_, hcl, hat⟩ := World.cells?_some hc
    refine ⟨n', fun j f hj => ?_⟩
    obtain ⟨ho, hk⟩ := hone_of hone j f hj
    have hjl : j < fs.size := (Array.getElem?_eq_some_iff.1 hj).1
    have hcell := hat j hjl
    have hv : cs'[j]? = some (cs'[j]'(by omega)) := List.getElem?_eq_getElem (by omega)
    have h1 := hf j f hj
    rw [ho, hk] at h1
    have hone' : (cs'.drop j).take 1 = [cs'[j]'(by omega)] := by
      rw [List.drop_eq_getElem_cons (by omega)]
      rfl
    rw [hone'] at h1
    have hys : ys[j]? = some (ys[j]'(by omega)) := List.getElem?_eq_getElem (by omega)
    refine ⟨_, _, ?_, h1.trans hys⟩
    rw [← Go.Deep.add_add, hcell, hv]
theorem block_lt {a : Addr} {v : Value} (h : w.cell? a = some v) : a.block < w.heap.size := by
  obtain ⟨o, ho, _⟩ := cells_of_cell h
  exact (Array.getElem?_eq_some_iff.1 ho).1
theorem gls_of (f : Nat → Gl) : ∀ n : Nat, ∃ ps : List Gl, ps.length = n ∧ ∀ k, k < n → wdAt ps k = (f k).wd ∧ stAt ps k = (f k).st ∧ shAt ps k = (f k).sh ∧ odAt ps k = (f k).od := by
  intro n
  refine ⟨(List.range n).map f, by simp, fun k hk => ?_⟩
  have e : ((List.range n).map f).getD k glZ = f k := by simp [List.getD, hk]
  unfold wdAt stAt shAt odAt
  rw [e]
  exact ⟨rfl, rfl, rfl, rfl⟩
/-- A slice of glue that came in. -/
theorem open_glues {r : Reach} {b0 : Nat} {t e ti : TypeId} {v : Value} {d : DataW H} {p : List MemPlace} {f0 f1 f2 f3 : Field} (ht : P.underlying t = some (.slice e)) (he : P.underlying e = some (.struct #[f0, f1, f2, f3]))
    (g0 : f0.type = ti) (g1 : f1.type = ti) (g2 : f2.type = ti) (g3 : f3.type = ti) (hi : P.underlying ti = some (.int .i64)) (hone : oneCellFields P #[f0, f1, f2, f3] = true) (hC : P.cellsOf e = 4)
    (hv : Value.okWide P w r b0 t v) (h : DataW.Trod enc P w base spare held t v d p) :
    ∃ (A : Option Addr) (ps : List Gl) (c : Nat), v = .slice A ps.length c ∧ ps.length ≤ lenMax ∧ Gls w w.heap.size A ps ∧ ∀ k, k < ps.length → (Lit.int .i64 (wdAt ps k)).wf = true ∧ (Lit.int .i64 (stAt ps k)).wf = true ∧ (Lit.int .i64 (shAt ps k)).wf = true ∧ (Lit.int .i64 (odAt ps k)).wf = true := by
  obtain ⟨a0, len, cap, rfl⟩ := okWide_slice ht hv
  obtain ⟨fuel, hf⟩ := h
  rcases open_slice_fields ht he hone hC hf with ⟨hcs, _⟩ | ⟨a, len', cap', m, hcs, hl, hm, hlm, hx⟩
  · simp [Value.cells] at hcs
    obtain ⟨rfl, rfl, rfl⟩ := hcs
    exact ⟨none, [], 0, rfl, Nat.zero_le _, fun h => absurd h (by simp), fun k hk => absurd hk (by simp)⟩
  · simp [Value.cells] at hcs
    obtain ⟨rfl, rfl, rfl⟩ := hcs
    have hk : ∀ k, k < len → ∃ q : Gl, (w.cell? (a.add (k * 4)) = some (.int .i64 q.wd) ∧ w.cell? (a.add (k * 4 + 1)) = some (.int .i64 q.st) ∧ w.cell? (a.add (k * 4 + 2)) = some (.int .i64 q.sh) ∧ w.cell? (a.add (k * 4 + 3)) = some (.int .i64 q.od)) ∧ (Lit.int .i64 q.wd).wf = true ∧ (Lit.int .i64 q.st).wf = true ∧ (Lit.int .i64 q.sh).wf = true ∧ (Lit.int .i64 q.od).wf = true := by
      intro k hk
      obtain ⟨n, hf⟩ := hx k (by omega)
      obtain ⟨v0, y0, c0, t0⟩ := hf 0 f0 rfl
      obtain ⟨v1, y1, c1, t1⟩ := hf 1 f1 rfl
      obtain ⟨v2, y2, c2, t2⟩ := hf 2 f2 rfl
      obtain ⟨v3, y3, c3, t3⟩ := hf 3 f3 rfl
      obtain ⟨n0, e0, _, w0⟩ := DataW.trod_int (by rw [g0]; exact hi) t0
      obtain ⟨n1, e1, _, w1⟩ := DataW.trod_int (by rw [g1]; exact hi) t1
      obtain ⟨n2, e2, _, w2⟩ := DataW.trod_int (by rw [g2]; exact hi) t2
      obtain ⟨n3, e3, _, w3⟩ := DataW.trod_int (by rw [g3]; exact hi) t3
      simp at e0 e1 e2 e3
      subst e0 e1 e2 e3
      exact ⟨⟨n0, n1, n2, n3⟩, ⟨c0, c1, c2, c3⟩, w0, w1, w2, w3⟩
    obtain ⟨f, hfk⟩ := choose_lt (α := Gl) (p := fun k q => (w.cell? (a.add (k * 4)) = some (.int .i64 q.wd) ∧ w.cell? (a.add (k * 4 + 1)) = some (.int .i64 q.st) ∧ w.cell? (a.add (k * 4 + 2)) = some (.int .i64 q.sh) ∧ w.cell? (a.add (k * 4 + 3)) = some (.int .i64 q.od)) ∧ (Lit.int .i64 q.wd).wf = true ∧ (Lit.int .i64 q.st).wf = true ∧ (Lit.int .i64 q.sh).wf = true ∧ (Lit.int .i64 q.od).wf = true) hk
    obtain ⟨ps, rfl, hps⟩ := gls_of f len
    refine ⟨some a, ps, cap, rfl, ?_, fun h0 => ?_, fun k hk => ?_⟩
    · unfold maxLen at hm
      unfold lenMax
      omega
    · have h00 := (hfk 0 h0).1.1
      have hsp := World.cell?_spot h00
      have hlt := block_lt h00
      obtain ⟨b, off, spot⟩ := a
      have hs : spot = none := by simpa [Addr.add] using hsp
      subst hs
      refine ⟨b, off, rfl, by simpa [Addr.add] using hlt, fun k hk => ?_⟩
      obtain ⟨⟨c0, c1, c2, c3⟩, _⟩ := hfk k hk
      obtain ⟨e0, e1, e2, e3⟩ := hps k hk
      rw [e0, e1, e2, e3]
      refine ⟨?_, ?_, ?_, ?_⟩
      · by_cases h : k * 4 = 0
        · simpa [Addr.add, h] using c0
        · simpa [Addr.add, h] using c0
      · simpa [Addr.add, Nat.add_assoc] using c1
      · simpa [Addr.add, Nat.add_assoc] using c2
      · simpa [Addr.add, Nat.add_assoc] using c3
    · obtain ⟨_, w0, w1, w2, w3⟩ := hfk k hk
      obtain ⟨e0, e1, e2, e3⟩ := hps k hk
      rw [e0, e1, e2, e3]
      exact ⟨w0, w1, w2, w3⟩
theorem ints_of (f : Nat → Int) : ∀ n : Nat, ∃ l : List Int, l.length = n ∧ ∀ k, k < n → lAt l k = f k := fun n =>
  ⟨(List.range n).map f, by simp, fun k hk => by unfold lAt; simp [List.getD, hk]⟩
/-- A slice of numbers of a kind that came in. -/
theorem open_nums {r : Reach} {b0 : Nat} {t ti : TypeId} {q : IntKind} {v : Value} {d : DataW H} {p : List MemPlace} (ht : P.underlying t = some (.slice ti)) (hi : P.underlying ti = some (.int q)) (hC : P.cellsOf ti = 1)
    (hv : Value.okWide P w r b0 t v) (h : DataW.Trod enc P w base spare held t v d p) :
    ∃ (A : Option Addr) (l : List Int) (c : Nat), v = .slice A l.length c ∧ l.length ≤ lenMax ∧ (0 < l.length → ∃ b off, A = some ⟨b, off, none⟩ ∧ b < w.heap.size ∧ ∀ k, k < l.length → w.cell? ⟨b, off + k, none⟩ = some (.int q (lAt l k))) ∧ ∀ k, k < l.length → (Lit.int q (lAt l k)).wf = true := by
  obtain ⟨a0, len, cap, rfl⟩ := okWide_slice ht hv
  obtain ⟨fuel, hf⟩ := h
  rcases open_slice1 ht hC hf with ⟨hcs, _⟩ | ⟨a, len', cap', m, n, V, D, Pl, hcs, hb, hl, hm, hmm, _, hx⟩
  · simp [Value.cells] at hcs
    obtain ⟨rfl, rfl, rfl⟩ := hcs
    exact ⟨none, [], 0, rfl, Nat.zero_le _, fun h => absurd h (by simp), fun k hk => absurd hk (by simp)⟩
  · simp [Value.cells] at hcs
    obtain ⟨rfl, rfl, rfl⟩ := hcs
    have hlm : len ≤ m := by rw [hmm]; split <;> omega
    have hk : ∀ k, k < len → ∃ z : Int, w.cell? (a.add k) = some (.int q z) ∧ (Lit.int q z).wf = true := by
      intro k hk
      obtain ⟨hc, ht'⟩ := hx k (by omega)
      obtain ⟨z, e, _, hw⟩ := DataW.trod_int hi ht'
      simp only [List.cons.injEq, and_true] at e
      rw [e] at hc
      exact ⟨z, hc, hw⟩
    obtain ⟨f, hfk⟩ := choose_lt (α := Int) (p := fun k z => w.cell? (a.add k) = some (.int q z) ∧ (Lit.int q z).wf = true) hk
    obtain ⟨l, rfl, hl2⟩ := ints_of f len
    refine ⟨some a, l, cap, rfl, by unfold maxLen at hm; unfold lenMax; omega, fun h0 => ?_, fun k hk => by rw [hl2 k hk]; exact (hfk k hk).2⟩
    have h00 := (hfk 0 h0).1
    have hsp := World.cell?_spot h00
    have hlt := block_lt h00
    obtain ⟨b, off, spot⟩ := a
    have hs : spot = none := by simpa [Addr.add] using hsp
    subst hs
    refine ⟨b, off, rfl, by simpa [Addr.add] using hlt, fun k hk => ?_⟩
    rw [hl2 k hk]
    have := (hfk k hk).1
    by_cases h : k = 0
    · simpa [Addr.add, h] using this
    · simpa [Addr.add, h] using this
theorem open_ints_any {r : Reach} {b0 : Nat} {t ti : TypeId} {v : Value} {d : DataW H} {p : List MemPlace} (ht : P.underlying t = some (.slice ti)) (hi : P.underlying ti = some (.int .i64)) (hC : P.cellsOf ti = 1)
    (hv : Value.okWide P w r b0 t v) (h : DataW.Trod enc P w base spare held t v d p) :
    ∃ (A : Option Addr) (l : List Int) (c : Nat), v = .slice A l.length c ∧ l.length ≤ lenMax ∧ Ints w w.heap.size A l ∧ ∀ k, k < l.length → (Lit.int .i64 (lAt l k)).wf = true := open_nums ht hi hC hv h
/-- An array of two numbers. -/
theorem open_arr2 {r : Reach} {b0 : Nat} {t ti : TypeId} {q : IntKind} {v : Value} {d : DataW H} {p : List MemPlace} (ht : P.underlying t = some (.array 2 ti)) (hi : P.underlying ti = some (.int q)) (hC : P.cellsOf ti = 1) (hT : P.cellsOf t = 2)
    (hv : Value.okWide P w r b0 t v) (h : DataW.Trod enc P w base spare held t v d p) :
    ∃ (x y : Int), v = .agg #[.int q x, .int q y] ∧ (Lit.int q x).wf = true ∧ (Lit.int q y).wf = true := by
  simp only [Value.okWide, ht] at hv
  obtain ⟨cs, rfl, hsz, _⟩ := hv
  obtain ⟨fuel, hf⟩ := h
  obtain ⟨xs, m, _, _, hlen, hxl, hx⟩ := DataW.trod_array ht hf
  rw [hC] at hx
  have h0 := hx 0 (by omega)
  have h1 := hx 1 (by omega)
  rw [List.getElem?_eq_getElem (by omega)] at h0 h1
  obtain ⟨x, e0, _, w0⟩ := DataW.trod_int hi h0
  obtain ⟨y, e1, _, w1⟩ := DataW.trod_int hi h1
  refine ⟨x, y, ?_, w0, w1⟩
  simp only [Value.cells] at hlen e0 e1
  obtain ⟨l⟩ := cs
  have hl : l.length = 2 := hlen.trans hT
  match l, hl with
  | [a, b], _ =>
    simp at e0 e1
    rw [e0, e1]
end
theorem u8_bounds {x : Int} (h : (Lit.int .u8 x).wf = true) : 0 ≤ x ∧ x ≤ 255 := by simpa [Lit.wf, IntKind.min, IntKind.max, IntKind.signed, IntKind.bits] using h
theorem u16_bounds {x : Int} (h : (Lit.int .u16 x).wf = true) : 0 ≤ x ∧ x ≤ 65535 := by simpa [Lit.wf, IntKind.min, IntKind.max, IntKind.signed, IntKind.bits] using h
theorem i16_bounds {x : Int} (h : (Lit.int .i16 x).wf = true) : -32768 ≤ x ∧ x ≤ 32767 := by simpa [Lit.wf, IntKind.min, IntKind.max, IntKind.signed, IntKind.bits] using h
theorem i64_bounds {x : Int} (h : (Lit.int .i64 x).wf = true) : -9223372036854775808 ≤ x ∧ x ≤ 9223372036854775807 := by simpa [Lit.wf, IntKind.min, IntKind.max, IntKind.signed, IntKind.bits] using h
theorem u64_bounds {x : Int} (h : (Lit.int .u64 x).wf = true) : 0 ≤ x ∧ x ≤ 18446744073709551615 := by simpa [Lit.wf, IntKind.min, IntKind.max, IntKind.signed, IntKind.bits] using h
end Go.Proofs.Ytjckbdbjcgjcaaa.Gu
