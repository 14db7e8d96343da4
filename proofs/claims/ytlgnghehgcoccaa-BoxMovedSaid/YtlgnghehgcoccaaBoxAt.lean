/- box.At. -/
import Derived.Test.YtlgnghehgcoccaaBoxMake
namespace Go.Proofs.Ytlgnghehgcoccaa
open Go.RowKit
set_option maxRecDepth 100000 in
set_option maxHeartbeats 4000000 in
theorem at_any (t : Bx) (x y : Int) (A : Option Addr) (c : Nat) (A' : Option Addr) (c' : Nat) (w : World) (hl : t.src.length ≤ 1000000) (hI : Ints w 0 w.heap.size A' t.src) :
    Calls Try.prog 16 #[.agg (bxA t A c A' c'), .int .i64 x, .int .i64 y] w fun e w' => (∃ A2 c2, e = .returned (.agg (bxA (t.at_ x y) A c A2 c2)) ∧ Ints w' w.heap.size w'.heap.size A2 t.src) ∧ Below w.heap.size w w' := by
  have HI := Lib.hid hI
  clear hI
  go_enter Try.func16, Try.ntmps16
  go_wp2_with fail
  have hd0 := two_boxes w (bxA (t.at_ x y) A c A' c') zeroBox 25 25
  obtain ⟨hd0, hd1, hsz, hb⟩ := hd0
  have HI0 := Lib.hid ((HI.out.below hb).mono (Nat.le_refl _) hb.size)
  change Calls _ _ _ ((w.alloc (.cells (bxA (t.at_ x y) A c A' c') 25)).alloc (.cells zeroBox 25)) _
  generalize ((w.alloc (.cells (bxA (t.at_ x y) A c A' c') 25)).alloc (.cells zeroBox 25)) = W0 at hd0 hd1 hsz hb HI0 ⊢
  have HD := Lib.hid (And.intro hd0 (And.intro hd1 (And.intro hsz hb)))
  clear hd0 hd1 hsz hb
  refine (clone_any _ _ t.src _ hl HI0.out).mono ?_
  rintro e w1 ⟨⟨A2, c2, rfl, hI2⟩, hb1⟩
  have d0 := (hb1.block w.heap.size (by have := HD.out.2.2.1; omega)).trans HD.out.1
  have d1 := (hb1.block (w.heap.size + 1) (by have := HD.out.2.2.1; omega)).trans HD.out.2.1
  have z10 := blk_free d0 10
  have HI2 := Lib.hid hI2
  have HB1 := Lib.hid hb1
  have D0 : Hid ((w1.setCell ⟨w.heap.size, 10, none⟩ (.slice A2 t.src.length c2)).heap[w.heap.size]? = some (.cells (bxA (t.at_ x y) A c A2 c2) 25 (0, 0))) := blk_set d0 10 (.slice A2 t.src.length c2)
  have D1 : Hid ((w1.setCell ⟨w.heap.size, 10, none⟩ (.slice A2 t.src.length c2)).heap[w.heap.size + 1]? = some (.cells zeroBox 25 (0, 0))) := blk_far d1 (p := ⟨w.heap.size, 10, none⟩) (by show w.heap.size + 1 ≠ w.heap.size; omega) _
  have b10 : w1.cell? ⟨w.heap.size, 10, none⟩ = some (.slice A' t.src.length c') := blk_cell d0 10 _ rfl
  clear d0 d1 hI2 hb1
  obtain ⟨i0, hi0, hz0, hz1, hz2⟩ := info_parts infoBox
  have HC0 : Hid (∀ j, j < 11 → (w1.setCell ⟨w.heap.size, 10, none⟩ (.slice A2 t.src.length c2)).cell? ⟨w.heap.size, 0 + j, none⟩ = (bxA (t.at_ x y) A c A2 c2)[j]?) := fun j _ => by rw [Nat.zero_add]; exact cell_of_row _ _ _ _ _ _ D0.out
  go_wp2_with (first
    | ((with_reducible refine at_load 25 ?_); go_loud (refine wpList_load_all i0 11 hi0 hz1 _ Try.underlying25 rfl rfl HC0.out ?_))
    | ((with_reducible refine at_store 25 ?_); go_loud (refine wpList_store_all i0 11 hi0 hz1 rfl rfl rfl D1.out (by decide) (bxA_one _ _ _ _ _) ?_); rw [row_all _ _ rfl rfl]))
  refine bodyPost_ret (results_cell_all rfl _ i0 11 hi0 hz1 _ Try.underlying25 rfl rfl (fun j _ => by rw [Nat.zero_add]; exact cell_setRow_same _ _ _ _ _ _ _ D1.out)) rfl ?_
  have hfar : Below w.heap.size w w1 := HD.out.2.2.2.trans (HB1.out.mono (by have := HD.out.2.2.1; omega))
  refine ⟨⟨A2, c2, rfl, ?_⟩, below_setRow (hfar.setCell (p := ⟨w.heap.size, 10, none⟩) (Nat.le_refl _) _) (by omega) _⟩
  have hs := HD.out.2.2.1
  refine (Ints.same HI2.out (w' := (w1.setCell ⟨w.heap.size, 10, none⟩ (.slice A2 t.src.length c2)).setRow (w.heap.size + 1) (bxA (t.at_ x y) A c A2 c2)) fun b o hlo _ => ?_).mono (by omega) (by simp)
  exact cell_of_heap ((setRow_other _ _ _ _ (by omega)).trans (Below.heap_setCell _ _ _ _ (by show b ≠ w.heap.size; omega)))
end Go.Proofs.Ytlgnghehgcoccaa
