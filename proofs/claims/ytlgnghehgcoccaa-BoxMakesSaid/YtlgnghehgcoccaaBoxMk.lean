/- box.Mark; the reference's List, Mark, At, Rule. -/
import Derived.Test.YtlgnghehgcoccaaBoxMake
import Derived.Test.YtlgnghehgcoccaaRowBx
import Derived.Test.YtlgnghehgcoccaaBoxFit
namespace Go.Proofs.Ytlgnghehgcoccaa
open Go.RowKit
/-- A box that stands for something else. -/
def Bx.mark (t : Bx) (of_ : Int) (src : List Int) : Bx := .mk t.k t.nm t.sz t.w t.h t.d t.x t.y t.kids of_ src
def listB' (W H D : Int) (l : List Bx) : Bx := .mk 3 ⟨#[]⟩ 0 W H D 0 0 l 0 []
def ruleB' (W H D : Int) : Bx := .mk 2 ⟨#[]⟩ 0 W H D 0 0 [] 0 []
set_option maxRecDepth 100000 in
set_option maxHeartbeats 4000000 in
theorem rrule_any (a b c : Int) (w : World) :
    Calls Try.prog 19 #[.int .i64 a, .int .i64 b, .int .i64 c] w fun e w' => e = .returned (.agg (bxA (ruleB' a b c) none 0 none 0)) ∧ Below w.heap.size w w' := by
  obtain ⟨i0, hi0, hz0, hz1, hz2⟩ := info_parts infoBox
  have D0 : Hid ((w.alloc (.cells zeroBox 25)).heap[w.heap.size]? = some (.cells zeroBox 25 (0, 0))) := blk_new _ _
  go_enter Try.func19, Try.ntmps19
  go_wp2_with ((with_reducible refine at_store 25 ?_); go_loud (refine wpList_store_all i0 11 hi0 hz1 rfl rfl rfl D0.out (by decide) (bxA_one (ruleB' a b c) none 0 none 0) ?_); rw [row_all _ _ rfl rfl])
  refine bodyPost_ret (results_cell_all rfl _ i0 11 hi0 hz1 _ Try.underlying25 rfl rfl (fun j _ => by rw [Nat.zero_add]; exact cell_setRow_same _ _ _ _ _ _ _ D0.out)) rfl ?_
  exact ⟨rfl, below_setRow (one_below _ _) (Nat.le_refl _) _⟩
set_option maxRecDepth 100000 in
set_option maxHeartbeats 4000000 in
theorem rat_any (t : Bx) (x y : Int) (A : Option Addr) (c : Nat) (A' : Option Addr) (c' : Nat) (w : World) :
    Calls Try.prog 17 #[.agg (bxA t A c A' c'), .int .i64 x, .int .i64 y] w fun e w' => e = .returned (.agg (bxA (t.at_ x y) A c A' c')) ∧ Below w.heap.size w w' := by
  obtain ⟨i0, hi0, hz0, hz1, hz2⟩ := info_parts infoBox
  obtain ⟨hd0, hd1, hsz, hb⟩ := two_boxes w (bxA (t.at_ x y) A c A' c') zeroBox 25 25
  have D1 := Lib.hid hd1
  have HC0 : Hid (∀ j, j < 11 → ((w.alloc (.cells (bxA (t.at_ x y) A c A' c') 25)).alloc (.cells zeroBox 25)).cell? ⟨w.heap.size, 0 + j, none⟩ = (bxA (t.at_ x y) A c A' c')[j]?) := fun j _ => by rw [Nat.zero_add]; exact cell_of_row _ _ _ _ _ _ hd0
  have HB := Lib.hid hb
  clear hd0 hd1 hsz hb
  go_enter Try.func17, Try.ntmps17
  go_wp2_with (first
    | ((with_reducible refine at_load 25 ?_); go_loud (refine wpList_load_all i0 11 hi0 hz1 _ Try.underlying25 rfl rfl HC0.out ?_))
    | ((with_reducible refine at_store 25 ?_); go_loud (refine wpList_store_all i0 11 hi0 hz1 rfl rfl rfl D1.out (by decide) (bxA_one _ _ _ _ _) ?_); rw [row_all _ _ rfl rfl]))
  refine bodyPost_ret (results_cell_all rfl _ i0 11 hi0 hz1 _ Try.underlying25 rfl rfl (fun j _ => by rw [Nat.zero_add]; exact cell_setRow_same _ _ _ _ _ _ _ D1.out)) rfl ?_
  exact ⟨rfl, below_setRow HB.out (by omega) _⟩
set_option maxRecDepth 100000 in
set_option maxHeartbeats 4000000 in
theorem mark_any (t : Bx) (of_ : Int) (src : List Int) (A : Option Addr) (c : Nat) (A' : Option Addr) (c' : Nat) (B : Option Addr) (d : Nat) (w : World) (hl : src.length ≤ 1000000) (hI : Ints w 0 w.heap.size B src) :
    Calls Try.prog 13 #[.agg (bxA t A c A' c'), .int .i64 of_, .slice B src.length d] w fun e w' => (∃ A2 c2, e = .returned (.agg (bxA (t.mark of_ src) A c A2 c2)) ∧ Ints w' w.heap.size w'.heap.size A2 src) ∧ Below w.heap.size w w' := by
  have HI := Lib.hid hI
  clear hI
  obtain ⟨i0, hi0, hz0, hz1, hz2⟩ := info_parts infoBox
  go_enter Try.func13, Try.ntmps13
  go_wp2_with fail
  obtain ⟨hd0, hd1, hsz, hb⟩ := two_boxes w (bxA t A c A' c') zeroBox 25 25
  have HI0 := Lib.hid ((HI.out.below hb).mono (Nat.le_refl _) hb.size)
  generalize ((w.alloc (.cells (bxA t A c A' c') 25)).alloc (.cells zeroBox 25)) = W0 at hd0 hd1 hsz hb HI0 ⊢
  have HD := Lib.hid (And.intro hd0 (And.intro hd1 (And.intro hsz hb)))
  clear hd0 hd1 hsz hb
  refine (clone_any _ _ src _ hl HI0.out).mono ?_
  rintro e w1 ⟨⟨A2, c2, rfl, hI2⟩, hb1⟩
  have d0 := (hb1.block w.heap.size (by have := HD.out.2.2.1; omega)).trans HD.out.1
  have d1 := (hb1.block (w.heap.size + 1) (by have := HD.out.2.2.1; omega)).trans HD.out.2.1
  have z9 := blk_free d0 9
  have b9 : w1.cell? ⟨w.heap.size, 9, none⟩ = some (.int .i64 t.of_) := blk_cell d0 9 _ rfl
  have e1 := blk_set d0 9 (.int .i64 of_)
  have z10 := blk_free e1 10
  have b10 : (w1.setCell ⟨w.heap.size, 9, none⟩ (.int .i64 of_)).cell? ⟨w.heap.size, 10, none⟩ = some (.slice A' t.src.length c') := blk_cell e1 10 _ rfl
  have e2 : ((w1.setCell ⟨w.heap.size, 9, none⟩ (.int .i64 of_)).setCell ⟨w.heap.size, 10, none⟩ (.slice A2 src.length c2)).heap[w.heap.size]? = some (.cells (bxA (t.mark of_ src) A c A2 c2) 25 (0, 0)) := blk_set e1 10 (.slice A2 src.length c2)
  have f1 := blk_far d1 (p := ⟨w.heap.size, 9, none⟩) (by show w.heap.size + 1 ≠ w.heap.size; omega) (.int .i64 of_)
  have D1 := Lib.hid (blk_far f1 (p := ⟨w.heap.size, 10, none⟩) (by show w.heap.size + 1 ≠ w.heap.size; omega) (.slice A2 src.length c2))
  have HC0 : Hid (∀ j, j < 11 → ((w1.setCell ⟨w.heap.size, 9, none⟩ (.int .i64 of_)).setCell ⟨w.heap.size, 10, none⟩ (.slice A2 src.length c2)).cell? ⟨w.heap.size, 0 + j, none⟩ = (bxA (t.mark of_ src) A c A2 c2)[j]?) := fun j _ => by rw [Nat.zero_add]; exact cell_of_row _ _ _ _ _ _ e2
  have HI2 := Lib.hid hI2
  have HB1 := Lib.hid hb1
  clear d0 d1 e1 e2 f1 hI2 hb1
  go_wp2_with (first
    | ((with_reducible refine at_load 25 ?_); go_loud (refine wpList_load_all i0 11 hi0 hz1 _ Try.underlying25 rfl rfl HC0.out ?_))
    | ((with_reducible refine at_store 25 ?_); go_loud (refine wpList_store_all i0 11 hi0 hz1 rfl rfl rfl D1.out (by decide) (bxA_one _ _ _ _ _) ?_); rw [row_all _ _ rfl rfl]))
  refine bodyPost_ret (results_cell_all rfl _ i0 11 hi0 hz1 _ Try.underlying25 rfl rfl (fun j _ => by rw [Nat.zero_add]; exact cell_setRow_same _ _ _ _ _ _ _ D1.out)) rfl ?_
  have hfar : Below w.heap.size w w1 := HD.out.2.2.2.trans (HB1.out.mono (by have := HD.out.2.2.1; omega))
  refine ⟨⟨A2, c2, rfl, ?_⟩, below_setRow ((hfar.setCell (p := ⟨w.heap.size, 9, none⟩) (Nat.le_refl _) _).setCell (p := ⟨w.heap.size, 10, none⟩) (Nat.le_refl _) _) (by omega) _⟩
  have hs := HD.out.2.2.1
  refine (Ints.same HI2.out fun b o hlo _ => ?_).mono (by omega) (by simp)
  exact cell_of_heap ((setRow_other _ _ _ _ (by omega)).trans ((Below.heap_setCell _ _ _ _ (by show b ≠ w.heap.size; omega)).trans (Below.heap_setCell _ _ _ _ (by show b ≠ w.heap.size; omega))))
theorem rowC_of : ∀ (Q : List Q5) (k : Nat) (u : Value), (rowC Q)[k]? = some u → ∃ q, Q[k / 11]? = some q ∧ q.cells[k % 11]? = some u := fun Q k u h => by
  have hk := (List.getElem?_eq_some_iff.1 h).1
  rw [rowC_len] at hk
  have h1 : k / 11 < Q.length := by omega
  refine ⟨Q[k / 11], List.getElem?_eq_getElem h1, ?_⟩
  rw [← rowC_at Q (k / 11) (k % 11) _ (List.getElem?_eq_getElem h1) (by omega), show k / 11 * 11 + k % 11 = k by omega]
  exact h
/-- The cells of a row that came in, to be copied. -/
theorem row_src {W : World} {hi : Nat} {A : Option Addr} {l : List Bx} (h : Kids W 0 hi A l) : ∃ Q : List Q5, Q.map Q5.t = l ∧ (∀ q ∈ Q, Lies W 0 hi q) ∧ (rowC Q).length = l.length * 11 ∧ ∀ W', Below hi W W' → 0 < l.length → ∃ b off, A = some ⟨b, off, none⟩ ∧ ∀ j u, (rowC Q)[j]? = some u → W'.cell? ⟨b, off + j, none⟩ = some u := by
  obtain ⟨Q, h1, h2, h3⟩ := row_kids h
  refine ⟨Q, h1, h2, by rw [rowC_len, ← h1, List.length_map], fun W' hb h0 => ?_⟩
  obtain ⟨b, off, rfl, _, hb2, h4⟩ := h3 h0
  refine ⟨b, off, rfl, fun j u hu => ?_⟩
  obtain ⟨q, hq, hu2⟩ := rowC_of Q j u hu
  refine (hb.cell (p := ⟨b, off + j, none⟩) hb2).trans ?_
  rw [show off + j = off + j / 11 * 11 + j % 11 by omega, h4 _ q hq _ (by omega)]
  exact hu2
theorem Copied.keep {g n : Nat} {e : TypeId} {news : List Value} {A : Option Addr} {W W' : World} (h : Copied g e news n A W) (hk : ∀ b, g ≤ b → W'.heap[b]? = W.heap[b]?) : Copied g e news n A W' := fun h0 => by
  obtain ⟨b, cur, h1, h2, h3, h4⟩ := h h0
  exact ⟨b, cur, h1, h2, (hk b h2).trans h3, h4⟩
theorem Copied.lowkeep {g n : Nat} {e : TypeId} {news : List Value} {A : Option Addr} {W W' : World} (h : Copied g e news n A W) (hb : Below W.heap.size W W') : Copied g e news n A W' := fun h0 => by
  obtain ⟨b, cur, h1, h2, h3, h4⟩ := h h0
  exact ⟨b, cur, h1, h2, (hb.block b (Array.getElem?_eq_some_iff.1 h3).1).trans h3, h4⟩
/-- The row that has been copied. -/
theorem row_copied {W W' : World} {hi g : Nat} {A' : Option Addr} {l : List Bx} {Q : List Q5} {e : TypeId} (h1 : Q.map Q5.t = l) (h2 : ∀ q ∈ Q, Lies W 0 hi q) (hb : Below hi W W') (hhi : hi ≤ W'.heap.size) (hc : Copied g e (rowC Q) l.length A' W') : Kids W' 0 W'.heap.size A' l := by
  by_cases h0 : 0 < l.length
  · obtain ⟨b, cur, rfl, _, hh, hcc⟩ := hc h0
    rw [← h1]
    exact kids_row (fun k u hu => by rw [Nat.zero_add]; exact blk_cell hh k _ (hcc k u hu)) (Nat.zero_le _) (Array.getElem?_eq_some_iff.1 hh).1 fun q hq => ((h2 q hq).same fun b o _ hb2 => hb.cell (p := ⟨b, o, none⟩) hb2).mono (Nat.le_refl _) hhi
  · rw [List.eq_nil_of_length_eq_zero (by omega : l.length = 0)]
    exact Kids.nil _ _ _ _
set_option maxRecDepth 100000 in
set_option maxHeartbeats 4000000 in
theorem rlist_any (W H D : Int) (l : List Bx) (A : Option Addr) (c : Nat) (w : World) (hl : l.length ≤ 1000000) (hK : Kids w 0 w.heap.size A l) :
    Calls Try.prog 14 #[.int .i64 W, .int .i64 H, .int .i64 D, .slice A l.length c] w fun e w' => (∃ A2 c2, e = .returned (.agg (bxA (listB' W H D l) A2 c2 none 0)) ∧ Kids w' 0 w'.heap.size A2 l) ∧ Below w.heap.size w w' := by
  obtain ⟨i0, hi0, hz0, hz1, hz2⟩ := info_parts infoBox
  obtain ⟨Q, q1, q2, q3, q4⟩ := row_src hK
  have HQ := Lib.hid (And.intro q1 (And.intro q2 q4))
  have HL3 := Lib.hid q3
  clear hK q1 q2 q3 q4
  go_enter Try.func14, Try.ntmps14
  obtain ⟨hd0, hd1, hsz, hb⟩ := two_boxes w zeroBox #[] 25 25
  have HD := Lib.hid (And.intro hd0 (And.intro hd1 (And.intro hsz hb)))
  clear hd0 hd1 hsz hb
  go_wp2_with (first
    | (at_builtin; go_loud (refine wpList_append_copy rfl _ _ 22 25 rfl i0 _ 11 128 Try.underlying22 hi0 hz0 hz1 hz2 rfl (by decide) rfl rfl HD.out.2.1 (rowC Q) HL3.out (HQ.out.2.2 _ HD.out.2.2.2) (rowC_one_cell Q) (by unfold maxLen; omega) (by omega) ?_); intro A2 c2 w2 hcp hb2; have HCP := Lib.hid hcp; have HB2 : Hid (Below (w.heap.size + 1) ((w.alloc (.cells zeroBox 25)).alloc (.cells #[] 25)) w2) := hb2; have D0 : Hid (w2.heap[w.heap.size]? = some (.cells zeroBox 25 (0, 0))) := (HB2.out.block w.heap.size (by omega)).trans HD.out.1; clear hcp hb2)
    | ((with_reducible refine at_store 25 ?_); go_loud (refine wpList_store_all i0 11 hi0 hz1 rfl rfl rfl D0.out (by decide) (bxA_one (listB' W H D l) A2 c2 none 0) ?_); rw [row_all _ _ rfl rfl]))
  refine bodyPost_ret (results_cell_all rfl _ i0 11 hi0 hz1 _ Try.underlying25 rfl rfl (fun j _ => by rw [Nat.zero_add]; exact cell_setRow_same _ _ _ _ _ _ _ D0.out)) rfl ?_
  have hbw : Below w.heap.size w w2 := HD.out.2.2.2.trans (HB2.out.mono (by omega))
  have hs2 : w.heap.size ≤ w2.heap.size := hbw.size
  refine ⟨⟨A2, c2, rfl, ?_⟩, below_setRow hbw (Nat.le_refl _) _⟩
  exact row_copied HQ.out.1 HQ.out.2.1 (below_setRow hbw (Nat.le_refl _) _) (by simp; omega) (HCP.out.keep fun b hb => setRow_other _ _ _ _ (by omega))
theorem three_boxes (w : World) (cs ds es : Array Value) (t u v : TypeId) : (((w.alloc (.cells cs t)).alloc (.cells ds u)).alloc (.cells es v)).heap[w.heap.size]? = some (.cells cs t (0, 0)) ∧ (((w.alloc (.cells cs t)).alloc (.cells ds u)).alloc (.cells es v)).heap[w.heap.size + 1]? = some (.cells ds u (0, 0)) ∧
    (((w.alloc (.cells cs t)).alloc (.cells ds u)).alloc (.cells es v)).heap[w.heap.size + 2]? = some (.cells es v (0, 0)) ∧ (((w.alloc (.cells cs t)).alloc (.cells ds u)).alloc (.cells es v)).heap.size = w.heap.size + 3 ∧ Below w.heap.size w (((w.alloc (.cells cs t)).alloc (.cells ds u)).alloc (.cells es v)) := by
  obtain ⟨h1, h2, h3, h4⟩ := two_boxes w cs ds t u
  have := blk_new ((w.alloc (.cells cs t)).alloc (.cells ds u)) (.cells es v)
  rw [h3] at this
  exact ⟨blk_more h1 _, blk_more h2 _, this, by simp, h4.alloc (by omega) _⟩
set_option maxRecDepth 100000 in
set_option maxHeartbeats 4000000 in
theorem rmark_any (t : Bx) (of_ : Int) (src : List Int) (A : Option Addr) (c : Nat) (A' : Option Addr) (c' : Nat) (B : Option Addr) (d : Nat) (w : World) (hl : src.length ≤ 1000000) (hI : Ints w 0 w.heap.size B src) :
    Calls Try.prog 15 #[.agg (bxA t A c A' c'), .int .i64 of_, .slice B src.length d] w fun e w' => (∃ A2 c2, e = .returned (.agg (bxA (t.mark of_ src) A c A2 c2)) ∧ Ints w' w.heap.size w'.heap.size A2 src) ∧ Below w.heap.size w w' := by
  have HI := Lib.hid hI
  clear hI
  obtain ⟨j0, hj0, hy0, hy1, hy2⟩ := info_parts infoI
  obtain ⟨i0, hi0, hz0, hz1, hz2⟩ := info_parts infoBox
  obtain ⟨hd0, hd1, hde, hsz, hb⟩ := three_boxes w (bxA t A c A' c') zeroBox #[] 25 25 3
  have HD := Lib.hid (And.intro hd0 (And.intro hd1 (And.intro hde (And.intro hsz hb))))
  have HI0 := Lib.hid ((HI.out.below hb).mono (Nat.le_refl _) hb.size)
  clear hd0 hd1 hde hsz hb
  go_enter Try.func15, Try.ntmps15
  go_wp2_with (first
    | (at_builtin; go_loud (refine wpList_append_copy rfl _ _ 23 3 rfl j0 _ 1 8 Try.underlying23 hj0 hy0 hy1 hy2 rfl (by decide) rfl rfl HD.out.2.2.1 (intV src) (by simp [intV]) (ints_src HI0.out) (fun u hu => by unfold intV at hu; obtain ⟨x, _, rfl⟩ := List.mem_map.1 hu; rfl) (by unfold maxLen; omega) (by omega) ?_; intro A2 c2 w1 hcp hb1; have HCP := Lib.hid hcp; have HB1 := Lib.hid hb1; have d0 : w1.heap[w.heap.size]? = some (.cells (bxA t A c A' c') 25 (0, 0)) := (hb1.block w.heap.size (by omega)).trans HD.out.1; have d1 : w1.heap[w.heap.size + 1]? = some (.cells zeroBox 25 (0, 0)) := (hb1.block (w.heap.size + 1) (by omega)).trans HD.out.2.1; clear hcp hb1; have z9 := blk_free d0 9; have b9 : w1.cell? ⟨w.heap.size, 9, none⟩ = some (.int .i64 t.of_) := blk_cell d0 9 _ rfl; have e1 := blk_set d0 9 (.int .i64 of_); have z10 := blk_free e1 10; have b10 : (w1.setCell ⟨w.heap.size, 9, none⟩ (.int .i64 of_)).cell? ⟨w.heap.size, 10, none⟩ = some (.slice A' t.src.length c') := blk_cell e1 10 _ rfl; have e2 : ((w1.setCell ⟨w.heap.size, 9, none⟩ (.int .i64 of_)).setCell ⟨w.heap.size, 10, none⟩ (.slice A2 src.length c2)).heap[w.heap.size]? = some (.cells (bxA (t.mark of_ src) A c A2 c2) 25 (0, 0)) := blk_set e1 10 (.slice A2 src.length c2); have f1 := blk_far d1 (p := ⟨w.heap.size, 9, none⟩) (by show w.heap.size + 1 ≠ w.heap.size; omega) (.int .i64 of_); have D1 := Lib.hid (blk_far f1 (p := ⟨w.heap.size, 10, none⟩) (by show w.heap.size + 1 ≠ w.heap.size; omega) (.slice A2 src.length c2)); have HC0 : Hid (∀ j, j < 11 → ((w1.setCell ⟨w.heap.size, 9, none⟩ (.int .i64 of_)).setCell ⟨w.heap.size, 10, none⟩ (.slice A2 src.length c2)).cell? ⟨w.heap.size, 0 + j, none⟩ = (bxA (t.mark of_ src) A c A2 c2)[j]?) := (fun j _ => by (rw [Nat.zero_add]; exact cell_of_row _ _ _ _ _ _ e2)); clear d0 d1 e1 e2 f1))
    | ((with_reducible refine at_load 25 ?_); go_loud (refine wpList_load_all i0 11 hi0 hz1 _ Try.underlying25 rfl rfl HC0.out ?_))
    | ((with_reducible refine at_store 25 ?_); go_loud (refine wpList_store_all i0 11 hi0 hz1 rfl rfl rfl D1.out (by decide) (bxA_one _ _ _ _ _) ?_); rw [row_all _ _ rfl rfl]))
  refine bodyPost_ret (results_cell_all rfl _ i0 11 hi0 hz1 _ Try.underlying25 rfl rfl (fun j _ => by rw [Nat.zero_add]; exact cell_setRow_same _ _ _ _ _ _ _ D1.out)) rfl ?_
  have hfar : Below w.heap.size w w1 := HD.out.2.2.2.2.trans (HB1.out.mono (by omega))
  refine ⟨⟨A2, c2, rfl, ?_⟩, below_setRow ((hfar.setCell (p := ⟨w.heap.size, 9, none⟩) (Nat.le_refl _) _).setCell (p := ⟨w.heap.size, 10, none⟩) (Nat.le_refl _) _) (by omega) _⟩
  refine ((ints_copied HCP.out).same fun b o hlo _ => ?_).mono (by omega) (by simp)
  exact cell_of_heap ((setRow_other _ _ _ _ (by omega)).trans ((Below.heap_setCell _ _ _ _ (by show b ≠ w.heap.size; omega)).trans (Below.heap_setCell _ _ _ _ (by show b ≠ w.heap.size; omega))))
end Go.Proofs.Ytlgnghehgcoccaa
