/- Few, the law's rule, Shift. -/
import Derived.Test.YtjckbdbjcgjcaaaHpAlign
import Derived.Test.YtjckbdbjcgjcaaaBoxRRule
import Derived.Test.YtjckbdbjcgjcaaaBoxDeepX
namespace Go.Proofs.Ytjckbdbjcgjcaaa
open Go.RowKit
set_option maxHeartbeats 400000 in
theorem few_any {r : Bool} (l : List Bx) (m : Nat) (A : Option Addr) (c : Nat) (w : World) (hm : m < 100000) (hr : decide (1 + cntL l ≤ m) = r) (hK : Kids w 0 w.heap.size A l) :
    Calls Try.prog 11 #[.slice A l.length c, .int .i64 (m : Int)] w fun e w' => e = .returned (.bool r) ∧ Below w.heap.size w w' := by
  have hb : decide (cntB (.mk 0 ⟨#[]⟩ 0 0 0 0 0 0 l 0 []) ≤ m) = r := by rw [cntB_eq]; exact hr
  have HB := Lib.hid hb
  have HK := Lib.hid hK
  clear hb hr hK
  go_enter Try.func11, Try.ntmps11
  go_wp2_with fail
  refine (rfew_any (.mk 0 ⟨#[]⟩ 0 0 0 0 0 0 l 0 []) m A c none 0 w hm HB.out HK.out).mono ?_
  rintro e w1 ⟨rfl, hb1⟩
  have HB1 := Lib.hid hb1
  clear hb1
  go_wp2
  go_ret
  exact ⟨rfl, HB1.out⟩
set_option maxHeartbeats 400000 in
theorem lrule_any (a b c : Int) (w : World) :
    Calls Try.prog 27 #[.int .i64 a, .int .i64 b, .int .i64 c] w fun e w' => e = .returned (.agg (bxA (ruleB' a b c) none 0 none 0)) ∧ Below w.heap.size w w' := by
  obtain ⟨i0, hi0, hz0, hz1, hz2⟩ := info_parts infoBox
  have D0 : Hid ((w.alloc (.cells zeroBox 28)).heap[w.heap.size]? = some (.cells zeroBox 28 (0, 0))) := blk_new _ _
  go_enter Try.func27, Try.ntmps27
  go_wp2_with fail
  refine (rrule_any a b c (w.alloc (.cells zeroBox 28))).mono ?_
  rintro e w1 ⟨rfl, hb1⟩
  have D1 := Lib.hid ((hb1.block w.heap.size (by simp)).trans D0.out)
  have HB1 := Lib.hid (below_next (one_below w _) hb1)
  clear hb1
  go_wp2_with ((with_reducible refine at_store 28 ?_); go_loud (refine wpList_store_all i0 11 hi0 hz1 rfl rfl rfl D1.out (by decide) (bxA_one (ruleB' a b c) none 0 none 0) ?_); rw [row_all _ _ rfl rfl])
  refine bodyPost_ret (results_cell_all rfl _ i0 11 hi0 hz1 _ Try.underlying28 rfl rfl (fun j _ => by rw [Nat.zero_add]; exact cell_setRow_same _ _ _ _ _ _ _ D1.out)) rfl ?_
  exact ⟨rfl, below_setRow HB1.out (Nat.le_refl _) _⟩
/-- A box moved. -/
def shB (b : Bx) (x y : Int) : Bx := .mk b.k b.nm b.sz b.w b.h b.d (IntKind.i64.wrap (b.x + x)) (IntKind.i64.wrap (b.y + y)) b.kids b.of_ b.src
/-- Both Shifts answer the box moved; its memory is as it lay, or a copy. -/
def ShPost (R : Bx) (w : World) (e : Ending) (w' : World) : Prop :=
  (∃ A2 c2 A3 c3, e = .returned (.agg (bxA R A2 c2 A3 c3)) ∧ Kids w' 0 w'.heap.size A2 R.kids ∧ Ints w' 0 w'.heap.size A3 R.src) ∧ Below w.heap.size w w'
set_option maxRecDepth 100000 in
set_option maxHeartbeats 1000000 in
theorem rshift_any (b : Bx) (A : Option Addr) (c : Nat) (A' : Option Addr) (c' : Nat) (x y : Int) (w : World) (hK : Kids w 0 w.heap.size A b.kids) (hI : Ints w 0 w.heap.size A' b.src) :
    Calls Try.prog 26 #[.agg (bxA b A c A' c'), .int .i64 x, .int .i64 y] w (ShPost (shB b x y) w) := by
  obtain ⟨i1, hi1, hy0, hy1, hy2⟩ := info_parts infoBox
  have HK := Lib.hid (And.intro hK hI)
  clear hK hI
  obtain ⟨d0, d1, hsz, hb⟩ := two_boxes w (bxA b A c A' c') zeroBox 28 28
  obtain ⟨W0, hW0⟩ : ∃ W0, (w.alloc (.cells (bxA b A c A' c') 28)).alloc (.cells zeroBox 28) = W0 := ⟨_, rfl⟩
  rw [hW0] at d0 d1 hsz hb
  obtain ⟨xx, hxx⟩ : ∃ xx, b.x = xx := ⟨_, rfl⟩
  obtain ⟨yy, hyy⟩ : ∃ yy, b.y = yy := ⟨_, rfl⟩
  obtain ⟨x2, hx2⟩ : ∃ x2, IntKind.i64.wrap (xx + x) = x2 := ⟨_, rfl⟩
  obtain ⟨y2, hy2'⟩ : ∃ y2, IntKind.i64.wrap (yy + y) = y2 := ⟨_, rfl⟩
  have a6 : W0.cell? ⟨w.heap.size, 6, none⟩ = some (.int .i64 xx) := by rw [← hxx]; exact blk_cell d0 6 _ rfl
  have z6 := blk_free d0 6
  obtain ⟨W1, hW1⟩ : ∃ W1, W0.setCell ⟨w.heap.size, 6, none⟩ (.int .i64 x2) = W1 := ⟨_, rfl⟩
  have d2 : W1.heap[w.heap.size]? = some (.cells ((bxA b A c A' c').setIfInBounds 6 (.int .i64 x2)) 28 (0, 0)) := by rw [← hW1]; exact blk_set d0 6 _
  have a7 : W1.cell? ⟨w.heap.size, 7, none⟩ = some (.int .i64 yy) := by rw [← hyy]; exact blk_cell d2 7 _ rfl
  have z7 := blk_free d2 7
  obtain ⟨W2, hW2⟩ : ∃ W2, W1.setCell ⟨w.heap.size, 7, none⟩ (.int .i64 y2) = W2 := ⟨_, rfl⟩
  have d3 : W2.heap[w.heap.size]? = some (.cells (bxA (shB b x y) A c A' c') 28 (0, 0)) := by
    rw [← hW2, show bxA (shB b x y) A c A' c' = ((bxA b A c A' c').setIfInBounds 6 (.int .i64 x2)).setIfInBounds 7 (.int .i64 y2) by
      rw [← hx2, ← hy2', ← hxx, ← hyy]; rfl]
    exact blk_set d2 7 _
  have d4 : W2.heap[w.heap.size + 1]? = some (.cells zeroBox 28 (0, 0)) := by
    rw [← hW2, ← hW1]
    exact blk_far (blk_far d1 (p := ⟨w.heap.size, 6, none⟩) (by show w.heap.size + 1 ≠ w.heap.size; omega) _) (p := ⟨w.heap.size, 7, none⟩) (by show w.heap.size + 1 ≠ w.heap.size; omega) _
  have HB : Hid (Below w.heap.size w W2) := by
    rw [← hW2, ← hW1]
    exact (hb.setCell (p := ⟨w.heap.size, 6, none⟩) (Nat.le_refl _) _).setCell (p := ⟨w.heap.size, 7, none⟩) (Nat.le_refl _) _
  have HC : Hid (∀ j, j < 11 → W2.cell? ⟨w.heap.size, 0 + j, none⟩ = (bxA (shB b x y) A c A' c')[j]?) := fun j _ => by
    rw [Nat.zero_add]; exact cell_of_row _ _ _ _ _ _ d3
  have HZ := Lib.hid d4
  clear d0 d1 d2 d3 d4 hsz hb hxx hyy
  go_enter Try.func26, Try.ntmps26
  go_wp2_with (first
    | ((with_reducible refine at_load 28 ?_); go_loud (refine wpList_load_all i1 11 hi1 hy1 _ Try.underlying28 rfl rfl HC.out ?_))
    | ((with_reducible refine at_store 28 ?_); go_loud (refine wpList_store_all i1 11 hi1 hy1 rfl rfl rfl HZ.out (by decide) (bxA_one (shB b x y) A c A' c') ?_); rw [row_all _ _ rfl rfl]))
  refine bodyPost_ret (results_cell_all rfl _ i1 11 hi1 hy1 _ Try.underlying28 rfl rfl (fun j _ => by rw [Nat.zero_add]; exact cell_setRow_same _ _ _ _ _ _ _ HZ.out)) rfl ?_
  have hbb := below_setRow HB.out (Nat.le_succ w.heap.size) (bxA (shB b x y) A c A' c')
  exact ⟨⟨A, c, A', c', rfl, HK.out.1.next hbb, HK.out.2.next hbb⟩, hbb⟩
set_option maxRecDepth 100000 in
set_option maxHeartbeats 1000000 in
theorem hshift_any (b : Bx) (A : Option Addr) (c : Nat) (A' : Option Addr) (c' : Nat) (x y : Int) (w : World) (hl : lens b) (hf : fitB b) (hc : cntB b ≤ 1000) (hK : Kids w 0 w.heap.size A b.kids) (hI : Ints w 0 w.heap.size A' b.src) :
    Calls Try.prog 25 #[.agg (bxA b A c A' c'), .int .i64 x, .int .i64 y] w (ShPost (shB b x y) w) := by
  obtain ⟨i1, hi1, hy0, hy1, hy2⟩ := info_parts infoBox
  have HK := Lib.hid (And.intro hK (And.intro hI (And.intro hl (And.intro hf hc))))
  clear hK hI hl hf hc
  obtain ⟨d0, d1, hsz, hb⟩ := two_boxes w (bxA b A c A' c') zeroBox 28 28
  have HC0 : Hid (∀ j, j < 11 → ((w.alloc (.cells (bxA b A c A' c') 28)).alloc (.cells zeroBox 28)).cell? ⟨w.heap.size, 0 + j, none⟩ = (bxA b A c A' c')[j]?) := fun j _ => by
    rw [Nat.zero_add]; exact cell_of_row _ _ _ _ _ _ d0
  have HD := Lib.hid (And.intro d1 (And.intro hsz hb))
  clear d0 d1 hsz hb
  go_enter Try.func25, Try.ntmps25
  go_wp2_with ((with_reducible refine at_load 28 ?_); go_loud (refine wpList_load_all i1 11 hi1 hy1 _ Try.underlying28 rfl rfl HC0.out ?_))
  refine (deep_any b A c A' c' ((w.alloc (.cells (bxA b A c A' c') 28)).alloc (.cells zeroBox 28)) HK.out.2.2.1 HK.out.2.2.2.1 (by have := HK.out.2.2.2.2; omega) (HK.out.1.next HD.out.2.2) (HK.out.2.1.next HD.out.2.2)).mono ?_
  rintro e w1 ⟨⟨A2, c2, A3, c3, rfl, hk2, hi2⟩, hb1⟩
  have hss := HD.out.2.1
  rw [hss] at hk2 hi2
  have hz1 : w1.heap[w.heap.size + 1]? = some (.cells zeroBox 28 (0, 0)) := (hb1.block _ (by omega)).trans HD.out.1
  have hbb : Below w.heap.size w w1 := below_next HD.out.2.2 hb1
  have hs1 : w.heap.size + 2 ≤ w1.heap.size := by have := hb1.size; omega
  obtain ⟨s, hs⟩ : ∃ s, w1.heap.size = s := ⟨_, rfl⟩
  obtain ⟨W0, hW0⟩ : ∃ W0, w1.alloc (.cells (bxA b A2 c2 A3 c3) 28) = W0 := ⟨_, rfl⟩
  have d0 : W0.heap[s]? = some (.cells (bxA b A2 c2 A3 c3) 28 (0, 0)) := by rw [← hW0, ← hs]; exact blk_new _ _
  have d1 : W0.heap[w.heap.size + 1]? = some (.cells zeroBox 28 (0, 0)) := by rw [← hW0]; exact blk_more hz1 _
  have hb0 : Below w.heap.size w W0 := by rw [← hW0]; exact hbb.alloc hbb.size _
  obtain ⟨xx, hxx⟩ : ∃ xx, b.x = xx := ⟨_, rfl⟩
  obtain ⟨yy, hyy⟩ : ∃ yy, b.y = yy := ⟨_, rfl⟩
  obtain ⟨x2, hx2⟩ : ∃ x2, IntKind.i64.wrap (xx + x) = x2 := ⟨_, rfl⟩
  obtain ⟨y2, hy2'⟩ : ∃ y2, IntKind.i64.wrap (yy + y) = y2 := ⟨_, rfl⟩
  have a6 : W0.cell? ⟨s, 6, none⟩ = some (.int .i64 xx) := by rw [← hxx]; exact blk_cell d0 6 _ rfl
  have z6 := blk_free d0 6
  obtain ⟨W1, hW1⟩ : ∃ W1, W0.setCell ⟨s, 6, none⟩ (.int .i64 x2) = W1 := ⟨_, rfl⟩
  have d2 : W1.heap[s]? = some (.cells ((bxA b A2 c2 A3 c3).setIfInBounds 6 (.int .i64 x2)) 28 (0, 0)) := by rw [← hW1]; exact blk_set d0 6 _
  have a7 : W1.cell? ⟨s, 7, none⟩ = some (.int .i64 yy) := by rw [← hyy]; exact blk_cell d2 7 _ rfl
  have z7 := blk_free d2 7
  obtain ⟨W2, hW2⟩ : ∃ W2, W1.setCell ⟨s, 7, none⟩ (.int .i64 y2) = W2 := ⟨_, rfl⟩
  have d3 : W2.heap[s]? = some (.cells (bxA (shB b x y) A2 c2 A3 c3) 28 (0, 0)) := by
    rw [← hW2, show bxA (shB b x y) A2 c2 A3 c3 = ((bxA b A2 c2 A3 c3).setIfInBounds 6 (.int .i64 x2)).setIfInBounds 7 (.int .i64 y2) by
      rw [← hx2, ← hy2', ← hxx, ← hyy]; rfl]
    exact blk_set d2 7 _
  have d4 : W2.heap[w.heap.size + 1]? = some (.cells zeroBox 28 (0, 0)) := by
    rw [← hW2, ← hW1]
    exact blk_far (blk_far d1 (p := ⟨s, 6, none⟩) (by show w.heap.size + 1 ≠ s; omega) _) (p := ⟨s, 7, none⟩) (by show w.heap.size + 1 ≠ s; omega) _
  have HB : Hid (Below w.heap.size w W2) := by
    rw [← hW2, ← hW1]
    exact (hb0.setCell (p := ⟨s, 6, none⟩) (by show _ ≤ s; omega) _).setCell (p := ⟨s, 7, none⟩) (by show _ ≤ s; omega) _
  have HF : Hid (∀ k, k < s → W2.heap[k]? = w1.heap[k]?) := fun k hk => by
    rw [← hW2, ← hW1, ← hW0]
    exact (Below.heap_setCell _ ⟨s, 7, none⟩ _ k (by show k ≠ s; omega)).trans ((Below.heap_setCell _ ⟨s, 6, none⟩ _ k (by show k ≠ s; omega)).trans (Below.heap_alloc _ _ _ (by omega)))
  have HC : Hid (∀ j, j < 11 → W2.cell? ⟨s, 0 + j, none⟩ = (bxA (shB b x y) A2 c2 A3 c3)[j]?) := fun j _ => by
    rw [Nat.zero_add]; exact cell_of_row _ _ _ _ _ _ d3
  have HZ := Lib.hid d4
  have HSS : Hid (s < W2.heap.size) := (Array.getElem?_eq_some_iff.1 d3).1
  have HKK := Lib.hid (And.intro hk2 hi2)
  have HS := Lib.hid (And.intro hs hs1)
  clear d0 d1 d2 d3 d4 hb0 hxx hyy hb1 hz1 hbb hk2 hi2 hss hs1
  go_wp2_with (first
    | ((with_reducible refine at_load 28 ?_); go_loud (refine wpList_load_all i1 11 hi1 hy1 _ Try.underlying28 rfl rfl HC.out ?_))
    | ((with_reducible refine at_store 28 ?_); refine wpList_store_all i1 11 hi1 hy1 rfl rfl rfl HZ.out (by decide) (bxA_one (shB b x y) A2 c2 A3 c3) ?_; rw [row_all _ _ rfl rfl]))
  refine bodyPost_ret (results_cell_all rfl _ i1 11 hi1 hy1 _ Try.underlying28 rfl rfl (fun j _ => by rw [Nat.zero_add]; exact cell_setRow_same _ _ _ _ _ _ _ HZ.out)) rfl ?_
  have hbb := below_setRow HB.out (Nat.le_succ w.heap.size) (bxA (shB b x y) A2 c2 A3 c3)
  have hse : (W2.setRow (w.heap.size + 1) (bxA (shB b x y) A2 c2 A3 c3)).heap.size = W2.heap.size := by simp
  have h1 := HS.out
  have h2 := HSS.out
  refine ⟨⟨A2, c2, A3, c3, rfl, (HKK.out.1.same fun k o hk1 hk2 => ?_).mono (Nat.zero_le _) (by rw [hse]; omega), (HKK.out.2.same fun k o hk1 hk2 => ?_).mono (Nat.zero_le _) (by rw [hse]; omega)⟩, hbb⟩
  · exact cell_of_heap ((setRow_other _ _ _ _ (by omega)).trans (HF.out k (by omega)))
  · exact cell_of_heap ((setRow_other _ _ _ _ (by omega)).trans (HF.out k (by omega)))
end Go.Proofs.Ytjckbdbjcgjcaaa
