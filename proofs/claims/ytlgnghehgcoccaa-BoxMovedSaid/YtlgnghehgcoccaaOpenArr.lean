/- How arguments that are arrays of numbers are read; the bounds of numbers. -/
import Derived.Test.YtlgnghehgcoccaaOpenBox
namespace Go.Proofs.Ytlgnghehgcoccaa
open Go.ChangeShapes Go.WideShapes Go.Deep Go.RowKit
section
variable {H : Type} {enc : TypeId × Value → H} {P : Program} {w : World} {base : Nat} {spare : Nat → Bool} {held : Bool}
/-- An array of 2 numbers. -/
theorem open_arr2 {r : Reach} {b0 : Nat} {t ti : TypeId} {q : IntKind} {v : Value} {d : DataW H} {p : List MemPlace} (ht : P.underlying t = some (.array 2 ti)) (hi : P.underlying ti = some (.int q)) (hC : P.cellsOf ti = 1) (hT : P.cellsOf t = 2)
    (hv : Value.okWide P w r b0 t v) (h : DataW.Trod enc P w base spare held t v d p) :
    ∃ (x0 x1 : Int), v = .agg #[.int q x0, .int q x1] ∧ (Lit.int q x0).wf = true ∧ (Lit.int q x1).wf = true := by
  simp only [Value.okWide, ht] at hv
  obtain ⟨cs, rfl, hsz, _⟩ := hv
  obtain ⟨fuel, hf⟩ := h
  obtain ⟨xs, m, _, _, hlen, hxl, hx⟩ := DataW.trod_array ht hf
  rw [hC] at hx
  have h0 := hx 0 (by omega)
  have h1 := hx 1 (by omega)
  rw [List.getElem?_eq_getElem (by omega)] at h0 h1
  obtain ⟨x0, e0, _, w0⟩ := DataW.trod_int hi h0
  obtain ⟨x1, e1, _, w1⟩ := DataW.trod_int hi h1
  refine ⟨x0, x1, ?_, w0, w1⟩
  simp only [Value.cells] at hlen e0 e1
  obtain ⟨l⟩ := cs
  have hl : l.length = 2 := hlen.trans hT
  match l, hl with
  | [a, b], _ =>
    simp at e0 e1
    rw [e0, e1]
/-- An array of 5 numbers. -/
theorem open_arr5 {r : Reach} {b0 : Nat} {t ti : TypeId} {q : IntKind} {v : Value} {d : DataW H} {p : List MemPlace} (ht : P.underlying t = some (.array 5 ti)) (hi : P.underlying ti = some (.int q)) (hC : P.cellsOf ti = 1) (hT : P.cellsOf t = 5)
    (hv : Value.okWide P w r b0 t v) (h : DataW.Trod enc P w base spare held t v d p) :
    ∃ (x0 x1 x2 x3 x4 : Int), v = .agg #[.int q x0, .int q x1, .int q x2, .int q x3, .int q x4] ∧ (Lit.int q x0).wf = true ∧ (Lit.int q x1).wf = true ∧ (Lit.int q x2).wf = true ∧ (Lit.int q x3).wf = true ∧ (Lit.int q x4).wf = true := by
  simp only [Value.okWide, ht] at hv
  obtain ⟨cs, rfl, hsz, _⟩ := hv
  obtain ⟨fuel, hf⟩ := h
  obtain ⟨xs, m, _, _, hlen, hxl, hx⟩ := DataW.trod_array ht hf
  rw [hC] at hx
  have h0 := hx 0 (by omega)
  have h1 := hx 1 (by omega)
  have h2 := hx 2 (by omega)
  have h3 := hx 3 (by omega)
  have h4 := hx 4 (by omega)
  rw [List.getElem?_eq_getElem (by omega)] at h0 h1 h2 h3 h4
  obtain ⟨x0, e0, _, w0⟩ := DataW.trod_int hi h0
  obtain ⟨x1, e1, _, w1⟩ := DataW.trod_int hi h1
  obtain ⟨x2, e2, _, w2⟩ := DataW.trod_int hi h2
  obtain ⟨x3, e3, _, w3⟩ := DataW.trod_int hi h3
  obtain ⟨x4, e4, _, w4⟩ := DataW.trod_int hi h4
  refine ⟨x0, x1, x2, x3, x4, ?_, w0, w1, w2, w3, w4⟩
  simp only [Value.cells] at hlen e0 e1 e2 e3 e4
  obtain ⟨l⟩ := cs
  have hl : l.length = 5 := hlen.trans hT
  match l, hl with
  | [a, b, c, d, e], _ =>
    simp at e0 e1 e2 e3 e4
    rw [e0, e1, e2, e3, e4]
theorem fits_at {ts : List TypeId} {ds : List (DataW H)} (h : (DataW.weightsEach P ts ds).all (· ≤ reachBytes) = true) {j : Nat} {t : TypeId} {d : DataW H} (ht : ts[j]? = some t) (hd : ds[j]? = some d) : Fits P t d := fun n hn =>
  of_decide_eq_true (List.all_eq_true.1 h n (DataW.weights_mem_each ht hd n hn))
end
theorem u8_bounds {x : Int} (h : (Lit.int .u8 x).wf = true) : 0 ≤ x ∧ x ≤ 255 := by simpa [Lit.wf, IntKind.min, IntKind.max, IntKind.signed, IntKind.bits] using h
theorem u16_bounds {x : Int} (h : (Lit.int .u16 x).wf = true) : 0 ≤ x ∧ x ≤ 65535 := by simpa [Lit.wf, IntKind.min, IntKind.max, IntKind.signed, IntKind.bits] using h
theorem i16_bounds {x : Int} (h : (Lit.int .i16 x).wf = true) : -32768 ≤ x ∧ x ≤ 32767 := by simpa [Lit.wf, IntKind.min, IntKind.max, IntKind.signed, IntKind.bits] using h
theorem i64_bounds {x : Int} (h : (Lit.int .i64 x).wf = true) : -9223372036854775808 ≤ x ∧ x ≤ 9223372036854775807 := by simpa [Lit.wf, IntKind.min, IntKind.max, IntKind.signed, IntKind.bits] using h
end Go.Proofs.Ytlgnghehgcoccaa
