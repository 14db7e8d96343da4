/- How an argument that is a box, a row of boxes, or a row of numbers is read. -/
import Derived.Test.YtlgnghehgcoccaaBoxFit
import Derived.SizedLaws
import Derived.Deep.Slices
import Derived.Deep.Fields
import Derived.ChangeSame
import Derived.RangeFuncBox
import Derived.Lib.SmallJoins
import Derived.OpenShut
namespace Go.Proofs.Ytlgnghehgcoccaa
open Go.ChangeShapes Go.WideShapes Go.Deep Go.RowKit
section
variable {H : Type} {enc : TypeId × Value → H} {P : Program} {w : World} {base : Nat} {spare : Nat → Bool} {held : Bool}
theorem block_lt {a : Addr} {v : Value} (h : w.cell? a = some v) : a.block < w.heap.size := by
  obtain ⟨o, ho, _⟩ := cells_of_cell h
  exact (Array.getElem?_eq_some_iff.1 ho).1
theorem ints_of (f : Nat → Int) : ∀ n : Nat, ∃ l : List Int, l.length = n ∧ ∀ k, k < n → lAt l k = f k := fun n =>
  ⟨(List.range n).map f, by simp, fun k hk => by unfold lAt; simp [List.getD, hk]⟩
theorem weightsAll_mem {e : TypeId} : ∀ {l : List (DataW H)} {d : DataW H}, d ∈ l → ∀ n ∈ d.weights P e, n ∈ DataW.weightsAll P e l
  | x :: r, d, h, n, hn => by
    rw [DataW.weightsAll]
    rcases List.mem_cons.1 h with rfl | h1
    · exact List.mem_append_left _ hn
    · exact List.mem_append_right _ (weightsAll_mem h1 n hn)
/-- All that is read under a datum fits into the reach. -/
def Fits (P : Program) (t : TypeId) (d : DataW H) : Prop := ∀ n ∈ d.weights P t, n ≤ reachBytes
theorem Fits.slice {t e : TypeId} {elems rest : List (DataW H)} (ht : P.underlying t = some (.slice e)) (h : Fits P t (.slice elems rest)) : (elems.length + rest.length) * P.bytesOf e ≤ reachBytes ∧ ∀ d ∈ elems, Fits P e d := by
  unfold Fits at h
  rw [DataW.weights, ht] at h
  exact ⟨h _ List.mem_cons_self, fun d hd n hn => h n (List.mem_cons_of_mem _ (List.mem_append_left _ (weightsAll_mem hd n hn)))⟩
theorem Fits.field {t : TypeId} {fs : Array Field} {parts : List (DataW H)} (ht : P.underlying t = some (.struct fs)) (h : Fits P t (.agg parts)) {j : Nat} {f : Field} {d : DataW H} (hf : fs[j]? = some f) (hd : parts[j]? = some d) : Fits P f.type d := by
  unfold Fits at h
  rw [DataW.weights, ht] at h
  exact fun n hn => h n (DataW.weights_mem_each (by rw [List.getElem?_map, Array.getElem?_toList, hf]; rfl) hd n hn)
theorem src_in {t ti : TypeId} (ht : P.underlying t = some (.slice ti)) (hi : P.underlying ti = some (.int .i64)) (hC : P.cellsOf ti = 1) {fuel : Nat} {v : Value} {x : DataW H × List MemPlace} (hf : DataW.trod enc P w base spare held fuel t [v] = some x) :
    ∃ (A : Option Addr) (l : List Int) (c : Nat), v = .slice A l.length c ∧ l.length ≤ lenMax ∧ Ints w 0 w.heap.size A l ∧ l.length ≤ c ∧ c ≤ lenMax ∧ (P.bytesOf ti = 8 → Fits P t x.1 → l.length ≤ fitN) := by
  rcases open_slice1 ht hC hf with ⟨hcs, _⟩ | ⟨a, len', cap', m, n, V, D, Pl, hcs, hb, hl, hm, hmm, hxe, hx⟩
  · simp at hcs
    subst hcs
    exact ⟨none, [], 0, rfl, Nat.zero_le _, fun h => absurd h (by simp), Nat.zero_le _, Nat.zero_le _, fun _ _ => Nat.zero_le _⟩
  · simp at hcs
    subst hcs
    have hlm : len' ≤ m := by rw [hmm]; split <;> omega
    have hk : ∀ k, k < len' → ∃ z : Int, w.cell? (a.add k) = some (.int .i64 z) := by
      intro k hk
      obtain ⟨hc, ht'⟩ := hx k (by omega)
      obtain ⟨z, e, _, hw⟩ := DataW.trod_int hi ht'
      simp only [List.cons.injEq, and_true] at e
      rw [e] at hc
      exact ⟨z, hc⟩
    obtain ⟨f, hfk⟩ := choose_lt (α := Int) (p := fun k z => w.cell? (a.add k) = some (.int .i64 z)) hk
    obtain ⟨l, rfl, hl2⟩ := ints_of f len'
    refine ⟨some a, l, cap', rfl, by unfold maxLen at hm; unfold lenMax; omega, fun h0 => ?_, hl, by unfold maxLen at hm; unfold lenMax; omega, fun hB hF => ?_⟩
    rotate_left
    · rw [hxe] at hF
      have := (Fits.slice ht hF).1
      rw [hB] at this
      simp at this
      unfold reachBytes at this
      unfold fitN
      omega
    have h00 := hfk 0 h0
    have hsp := World.cell?_spot h00
    have hlt := block_lt h00
    obtain ⟨b, off, spot⟩ := a
    have hs : spot = none := by simpa [Addr.add] using hsp
    subst hs
    refine ⟨b, off, rfl, Nat.zero_le _, by simpa [Addr.add] using hlt, fun k hk => ?_⟩
    rw [hl2 k hk]
    have := hfk k hk
    by_cases h : k = 0
    · simpa [Addr.add, h] using this
    · simpa [Addr.add, h] using this
theorem eleven {α : Type} : ∀ {cs : List α}, cs.length = 11 → ∃ a0 a1 a2 a3 a4 a5 a6 a7 a8 a9 a10, cs = [a0, a1, a2, a3, a4, a5, a6, a7, a8, a9, a10]
  | [a0, a1, a2, a3, a4, a5, a6, a7, a8, a9, a10], _ => ⟨a0, a1, a2, a3, a4, a5, a6, a7, a8, a9, a10, rfl⟩
abbrev BoxIn (w : World) (cs : List Value) (q : Bx × Option Addr × Nat × Option Addr × Nat) : Prop :=
  cs = (bxA q.1 q.2.1 q.2.2.1 q.2.2.2.1 q.2.2.2.2).toList ∧ lens q.1 ∧ Kids w 0 w.heap.size q.2.1 q.1.kids ∧ Ints w 0 w.heap.size q.2.2.2.1 q.1.src
theorem kids_in {tS tB : TypeId} (hS : P.underlying tS = some (.slice tB)) (hC : P.cellsOf tB = 11) {n : Nat} (ih : ∀ m, m < n → ∀ cs x, DataW.trod enc P w base spare held m tB cs = some x → ∃ q, BoxIn w cs q ∧ (Fits P tB x.1 → fitB q.1)) {v : Value} {x : DataW H × List MemPlace}
    (h : DataW.trod enc P w base spare held n tS [v] = some x) : ∃ (A : Option Addr) (l : List Bx) (c : Nat), v = .slice A l.length c ∧ l.length ≤ lenMax ∧ Kids w 0 w.heap.size A l ∧ l.length ≤ c ∧ c ≤ lenMax ∧ (Fits P tS x.1 → ∀ i, i < l.length → fitB (kidAt l i)) := by
  rcases DataW.trod_slice hS h with ⟨hcs, _⟩ | ⟨a, len, cap, elems, rest, m, hm1, hcs, hxe, hb, hl, hm, hlen, hel, _, _⟩
  · simp at hcs
    subst hcs
    exact ⟨none, [], 0, rfl, Nat.zero_le _, Kids.nil _ _ _ _, Nat.zero_le _, Nat.zero_le _, fun _ i hi => absurd hi (by simp)⟩
  · simp at hcs
    subst hcs
    have hk : ∀ i, i < len → ∃ q : Bx × Option Addr × Nat × Option Addr × Nat, (∀ j, j < 11 → w.cell? ((a.add (i * 11)).add j) = (bxA q.1 q.2.1 q.2.2.1 q.2.2.2.1 q.2.2.2.2)[j]?) ∧ lens q.1 ∧ Kids w 0 w.heap.size q.2.1 q.1.kids ∧ Ints w 0 w.heap.size q.2.2.2.1 q.1.src ∧ (Fits P tS x.1 → fitB q.1) := by
      intro i hi
      have h1 := hel i hi
      have he : elems[i]? = some (elems[i]'(by omega)) := List.getElem?_eq_getElem (by omega)
      rw [he, hC] at h1
      obtain ⟨cs', hc, ht'⟩ := Option.bind_eq_some_iff.1 h1
      obtain ⟨q, ⟨e, hq1, hq2, hq3⟩, hqf⟩ := ih m (by omega) _ _ ht'
      obtain ⟨_, hcl, hat⟩ := World.cells?_some hc
      refine ⟨q, fun j hj => ?_, hq1, hq2, hq3, fun hF => hqf ?_⟩
      · rw [hat j hj, e]
        simp
      · rw [hxe] at hF
        refine (Fits.slice hS hF).2 _ (List.mem_map.2 ⟨_, List.mem_of_getElem? he, rfl⟩)
    obtain ⟨f, hfk⟩ := choose_lt (p := fun i (q : Bx × Option Addr × Nat × Option Addr × Nat) => (∀ j, j < 11 → w.cell? ((a.add (i * 11)).add j) = (bxA q.1 q.2.1 q.2.2.1 q.2.2.2.1 q.2.2.2.2)[j]?) ∧ lens q.1 ∧ Kids w 0 w.heap.size q.2.1 q.1.kids ∧ Ints w 0 w.heap.size q.2.2.2.1 q.1.src ∧ (Fits P tS x.1 → fitB q.1)) hk
    have hlen' : ((List.range len).map fun i => (f i).1).length = len := by simp
    have hkid : ∀ i, i < len → kidAt ((List.range len).map fun i => (f i).1) i = (f i).1 := fun i hi => by simp [kidAt, List.getD, hi]
    generalize ((List.range len).map fun i => (f i).1) = l at hlen' hkid
    subst hlen'
    refine ⟨some a, l, cap, rfl, by unfold maxLen at hm; unfold lenMax; omega, .mk _ _ (fun i => (f i).2.1) (fun i => (f i).2.2.2.1) (fun i => (f i).2.2.1) (fun i => (f i).2.2.2.2) (fun h0 => ?_) (fun i hi => ?_) (fun i hi => ?_) (fun i hi => ?_), hl, by unfold maxLen at hm; unfold lenMax; omega, fun hF i hi => ?_⟩
    · have h00 : w.cell? ((a.add (0 * 11)).add 0) = some _ := (hfk 0 h0).1 0 (by omega)
      have hsp := World.cell?_spot h00
      have hlt := block_lt h00
      obtain ⟨b, off, spot⟩ := a
      have hs : spot = none := by simpa [Addr.add] using hsp
      subst hs
      refine ⟨b, off, rfl, Nat.zero_le _, by simpa [Addr.add] using hlt, fun i hi j hj => ?_⟩
      rw [hkid i hi, ← (hfk i hi).1 j hj]
      have ea : ∀ (o k : Nat), (⟨b, o, none⟩ : Addr).add k = ⟨b, o + k, none⟩ := fun o k => by unfold Addr.add; split <;> simp_all
      rw [ea, ea]
    · rw [hkid i hi]; exact (hfk i hi).2.2.2.1
    · rw [hkid i hi]; exact (hfk i hi).2.1
    · rw [hkid i hi]; exact (hfk i hi).2.2.1
    · rw [hkid i hi]; exact (hfk i hi).2.2.2.2 hF
theorem box_in {tS tB tI ti ts : TypeId} {f0 f1 f2 f3 f4 f5 f6 f7 f8 f9 f10 : Field} (hS : P.underlying tS = some (.slice tB)) (hB : P.underlying tB = some (.struct #[f0, f1, f2, f3, f4, f5, f6, f7, f8, f9, f10])) (hI : P.underlying tI = some (.slice ti)) (hi : P.underlying ti = some (.int .i64)) (hs : P.underlying ts = some .string)
    (hC : P.cellsOf tB = 11) (hCi : P.cellsOf ti = 1) (hB8 : P.bytesOf ti = 8) (hone : oneCellFields P #[f0, f1, f2, f3, f4, f5, f6, f7, f8, f9, f10] = true)
    (g0 : f0.type = ti) (g1 : f1.type = ts) (g2 : f2.type = ti) (g3 : f3.type = ti) (g4 : f4.type = ti) (g5 : f5.type = ti) (g6 : f6.type = ti) (g7 : f7.type = ti) (g8 : f8.type = tS) (g9 : f9.type = ti) (g10 : f10.type = tI) :
    ∀ fuel cs x, DataW.trod enc P w base spare held fuel tB cs = some x → ∃ q, BoxIn w cs q ∧ (Fits P tB x.1 → fitB q.1) := by
  intro fuel
  induction fuel using Nat.strongRecOn with
  | ind fuel ih =>
    intro cs x h
    obtain ⟨xs, n, hn, hxe, hcl, hxl, hf⟩ := DataW.trod_struct hB h
    rw [hC] at hcl
    obtain ⟨a0, a1, a2, a3, a4, a5, a6, a7, a8, a9, a10, rfl⟩ := eleven hcl
    have hxl' : xs.length = 11 := hxl
    obtain ⟨x0, x1, x2, x3, x4, x5, x6, x7, x8, x9, x10, rfl⟩ := eleven hxl'
    have hg : ∀ (j : Nat) (f : Field) (a : Value) (y : DataW H × List MemPlace), (#[f0, f1, f2, f3, f4, f5, f6, f7, f8, f9, f10] : Array Field)[j]? = some f → ([a0, a1, a2, a3, a4, a5, a6, a7, a8, a9, a10].drop j).take 1 = [a] → [x0, x1, x2, x3, x4, x5, x6, x7, x8, x9, x10][j]? = some y → DataW.trod enc P w base spare held n f.type [a] = some y := by
      intro j f a y hj ha hy
      obtain ⟨ho, hk⟩ := hone_of hone j f hj
      have h1 := hf j f hj
      rw [ho, hk, ha, hy] at h1
      exact h1
    have t0 := hg 0 f0 a0 x0 rfl rfl rfl
    have t1 := hg 1 f1 a1 x1 rfl rfl rfl
    have t2 := hg 2 f2 a2 x2 rfl rfl rfl
    have t3 := hg 3 f3 a3 x3 rfl rfl rfl
    have t4 := hg 4 f4 a4 x4 rfl rfl rfl
    have t5 := hg 5 f5 a5 x5 rfl rfl rfl
    have t6 := hg 6 f6 a6 x6 rfl rfl rfl
    have t7 := hg 7 f7 a7 x7 rfl rfl rfl
    have t8 := hg 8 f8 a8 x8 rfl rfl rfl
    have t9 := hg 9 f9 a9 x9 rfl rfl rfl
    have t10 := hg 10 f10 a10 x10 rfl rfl rfl
    rw [g0] at t0; rw [g1] at t1; rw [g2] at t2; rw [g3] at t3; rw [g4] at t4; rw [g5] at t5; rw [g6] at t6; rw [g7] at t7; rw [g8] at t8; rw [g9] at t9; rw [g10] at t10
    obtain ⟨n0, e0, _⟩ := DataW.trod_int hi t0
    obtain ⟨n1, e1, _, hs1⟩ := DataW.trod_string hs t1
    obtain ⟨n2, e2, _⟩ := DataW.trod_int hi t2
    obtain ⟨n3, e3, _⟩ := DataW.trod_int hi t3
    obtain ⟨n4, e4, _⟩ := DataW.trod_int hi t4
    obtain ⟨n5, e5, _⟩ := DataW.trod_int hi t5
    obtain ⟨n6, e6, _⟩ := DataW.trod_int hi t6
    obtain ⟨n7, e7, _⟩ := DataW.trod_int hi t7
    obtain ⟨n9, e9, _⟩ := DataW.trod_int hi t9
    simp only [List.cons.injEq, and_true] at e0 e1 e2 e3 e4 e5 e6 e7 e9
    subst e0 e1 e2 e3 e4 e5 e6 e7 e9
    obtain ⟨A', l', c', rfl, hm', hI', _, _, hF'⟩ := src_in hI hi hCi t10
    obtain ⟨A, l, c, rfl, hm, hK, _, _, hFK⟩ := kids_in hS hC (n := n) (fun m hm cs x hx => ih m (by omega) cs x hx) t8
    refine ⟨⟨.mk n0 n1 n2 n3 n4 n5 n6 n7 l n9 l', A, c, A', c'⟩, ⟨rfl, ⟨by unfold maxLen at hs1; unfold lenMax; show n1.size ≤ _; omega, hm', hm⟩, hK, hI'⟩, fun hF => ?_⟩
    rw [hxe] at hF
    rw [fitB_eq]
    have e10 : Fits P f10.type x10.1 := Fits.field hB hF (j := 10) (f := f10) (d := x10.1) rfl rfl
    have e8 : Fits P f8.type x8.1 := Fits.field hB hF (j := 8) (f := f8) (d := x8.1) rfl rfl
    rw [g10] at e10
    rw [g8] at e8
    exact ⟨hF' hB8 e10, fitL_of (hFK e8)⟩
section
variable {r : Reach} {b0 : Nat} {tS tB tI ti ts : TypeId} {v : Value} {d : DataW H} {p : List MemPlace} {f0 f1 f2 f3 f4 f5 f6 f7 f8 f9 f10 : Field} (hS : P.underlying tS = some (.slice tB)) (hB : P.underlying tB = some (.struct #[f0, f1, f2, f3, f4, f5, f6, f7, f8, f9, f10])) (hI : P.underlying tI = some (.slice ti)) (hi : P.underlying ti = some (.int .i64)) (hs : P.underlying ts = some .string)
    (hC : P.cellsOf tB = 11) (hCi : P.cellsOf ti = 1) (hB8 : P.bytesOf ti = 8) (hone : oneCellFields P #[f0, f1, f2, f3, f4, f5, f6, f7, f8, f9, f10] = true)
    (g0 : f0.type = ti) (g1 : f1.type = ts) (g2 : f2.type = ti) (g3 : f3.type = ti) (g4 : f4.type = ti) (g5 : f5.type = ti) (g6 : f6.type = ti) (g7 : f7.type = ti) (g8 : f8.type = tS) (g9 : f9.type = ti) (g10 : f10.type = tI)
include hS hB hI hi hs hC hCi hB8 hone g0 g1 g2 g3 g4 g5 g6 g7 g8 g9 g10
/-- An argument that is a box. -/
theorem open_box (hv : Value.okWide P w r b0 tB v) (h : DataW.Trod enc P w base spare held tB v d p) :
    ∃ (t : Bx) (A : Option Addr) (c : Nat) (A' : Option Addr) (c' : Nat), v = .agg (bxA t A c A' c') ∧ lens t ∧ Kids w 0 w.heap.size A t.kids ∧ Ints w 0 w.heap.size A' t.src ∧ (Fits P tB d → fitB t) := by
  obtain ⟨cs, rfl, _⟩ := okWide_struct hB hv
  obtain ⟨fuel, hf⟩ := h
  obtain ⟨⟨t, A, c, A', c'⟩, ⟨e, hl, hK, hI'⟩, hF⟩ := box_in hS hB hI hi hs hC hCi hB8 hone g0 g1 g2 g3 g4 g5 g6 g7 g8 g9 g10 fuel _ _ hf
  refine ⟨t, A, c, A', c', ?_, hl, hK, hI', hF⟩
  have : cs = bxA t A c A' c' := Array.toList_inj.1 (by simpa [Value.cells] using e)
  rw [this]
/-- An argument that is a row of boxes. -/
theorem open_boxes (hv : Value.okWide P w r b0 tS v) (h : DataW.Trod enc P w base spare held tS v d p) :
    ∃ (A : Option Addr) (l : List Bx) (c : Nat), v = .slice A l.length c ∧ l.length ≤ lenMax ∧ Kids w 0 w.heap.size A l ∧ l.length ≤ c ∧ c ≤ lenMax ∧ (Fits P tS d → ∀ i, i < l.length → fitB (kidAt l i)) := by
  obtain ⟨a, n, c, rfl⟩ := okWide_slice hS hv
  obtain ⟨fuel, hf⟩ := h
  obtain ⟨A, l, c', e, h1⟩ := kids_in hS hC (n := fuel) (fun m _ cs x hx => box_in hS hB hI hi hs hC hCi hB8 hone g0 g1 g2 g3 g4 g5 g6 g7 g8 g9 g10 m cs x hx) hf
  exact ⟨A, l, c', e, h1⟩
end
/-- An argument that is a row of numbers. -/
theorem open_nums {r : Reach} {b0 : Nat} {t ti : TypeId} {v : Value} {d : DataW H} {p : List MemPlace} (ht : P.underlying t = some (.slice ti)) (hi : P.underlying ti = some (.int .i64)) (hC : P.cellsOf ti = 1) (hv : Value.okWide P w r b0 t v) (h : DataW.Trod enc P w base spare held t v d p) :
    ∃ (A : Option Addr) (l : List Int) (c : Nat), v = .slice A l.length c ∧ l.length ≤ lenMax ∧ Ints w 0 w.heap.size A l ∧ l.length ≤ c ∧ c ≤ lenMax := by
  obtain ⟨a, n, c, rfl⟩ := okWide_slice ht hv
  obtain ⟨fuel, hf⟩ := h
  obtain ⟨A, l, c', e, h1, h2, h3, h4, _⟩ := src_in ht hi hC hf
  exact ⟨A, l, c', e, h1, h2, h3, h4⟩
end
end Go.Proofs.Ytlgnghehgcoccaa
