/- The walk of DemeritTotal. -/
import Derived.Test.YtdmcddhepgodhaaLawBase
import Derived.Test.YtdmcddhepgodhaaApp
import Derived.Deep.RegionHeld3
namespace Go.Proofs.Ytdmcddhepgodhaa
open Go.RowKit
theorem info3 : (Try.prog.info? 3).map (fun i => (i.zero, i.size, i.bytes)) = some (some (.int .i64 0), 1, 8) := by kernel_rfl
set_option maxHeartbeats 4000000 in
theorem demeritTotal_walk (A : Option Addr) (c : Nat) (ps : List Pc) (A2 : Option Addr) (c2 : Nat) (l : List Int) (i j wd ind : Int) (w : World) (hm : ps.length ≤ lenMax) (hP : Pcs w w.heap.size A ps) (hm2 : l.length ≤ lenMax) (hI : Ints w w.heap.size A2 l) :
    Calls Try.prog 6 #[.slice A ps.length c, .slice A2 l.length c2, .agg #[.int .i64 i, .int .i64 j, .int .i64 wd, .int .i64 ind]] w fun e w' => e = .returned (.bool true) ∧ Below w.heap.size w w' := by
  have hm' : ps.length ≤ 9223372036854775807 := hm
  have hm2' : l.length ≤ 9223372036854775807 := hm2
  have HM := Lib.hid hm
  have HP := Lib.hid hP
  have HM2 := Lib.hid hm2
  have HI := Lib.hid hI
  clear hm hP hm2 hI
  have HB : Hid (Below w.heap.size w (w.alloc (.cells #[.int .i64 i, .int .i64 j, .int .i64 wd, .int .i64 ind] 24))) := (Below.refl _ _).alloc (Nat.le_refl _) _
  by_cases h70 : 70 < ps.length
  · go_enter Try.func6, Try.ntmps6
    go_wp2_with (go_at_call 9; refine (awake_any _).mono ?_; rintro e w1 ⟨rfl, hb1⟩)
    go_ret
    exact ⟨rfl, below_next HB.out hb1⟩
  by_cases h71 : 70 < l.length
  · go_enter Try.func6, Try.ntmps6
    go_wp2_with (go_at_call 9; refine (awake_any _).mono ?_; rintro e w1 ⟨rfl, hb1⟩)
    go_ret
    exact ⟨rfl, below_next HB.out hb1⟩
  obtain ⟨i0, hi0, hz0, hz1, hz2⟩ := info_parts info3
  go_enter Try.func6, Try.ntmps6
  go_wp2_with fail
  refine (awake_any _).mono ?_
  rintro e w1 ⟨rfl, hb1⟩
  have hP1 := HP.out.next (below_next HB.out hb1)
  have HI1 := Lib.hid (HI.out.next (below_next HB.out hb1))
  have hs1 := hb1.size
  simp only [World.size_alloc] at hs1
  have f2 := kept_box hb1 2 _ rfl
  have f3 := kept_box hb1 3 _ rfl
  go_wp2_with fail
  go_region_held3 (fun W => W.cell? ⟨w.heap.size, 2, none⟩ = some (.int .i64 wd) ∧ W.cell? ⟨w.heap.size, 3, none⟩ = some (.int .i64 ind)) (go_keep)
    (first
      | (refine step_append_empty (by rfl) _ _ _ 3 (by rfl) i0 Try.underlying37 hi0 hz0 hz1 hz2 (g := w1.heap.size) (l := l) (c := c2) (A := A2) (B := w1.heap.size) (by rfl) (by rfl) (heap_alloc_new _ _) (Ints.below (w := w1) HI1.out (((Below.refl _ w1).drew).alloc (by simp) _)) (by omega) ?_; intro A' c' w2 hI2 hbA
         have hbT : Below w1.heap.size w1 w2 := (((Below.refl _ w1).drew).alloc (by simp) _).trans hbA
         have f2' := (hbT.cell (p := ⟨w.heap.size, 2, none⟩) (by simp; omega)).trans f2
         have f3' := (hbT.cell (p := ⟨w.heap.size, 3, none⟩) (by simp; omega)).trans f3)
      | (go_at_call 17; refine (Total_any _ _ _ _ ps l _ _ _ HM.out HM2.out (HP.out.next (below_next (below_next HB.out hb1) hbT)) hI2).mono ?_; rintro e w3 ⟨rfl, hb3⟩
         have f2'' := (hb3.cell (p := ⟨w.heap.size, 2, none⟩) (by have := hbT.size; simp; omega)).trans f2'
         have f3'' := (hb3.cell (p := ⟨w.heap.size, 3, none⟩) (by have := hbT.size; simp; omega)).trans f3'))
  have hb13 : Below (w.alloc (.cells #[.int .i64 i, .int .i64 j, .int .i64 wd, .int .i64 ind] 24)).heap.size (w.alloc (.cells #[.int .i64 i, .int .i64 j, .int .i64 wd, .int .i64 ind] 24)) w3 := below_next (below_next hb1 hbT) hb3
  clear hbA hI2
  go_wp2_with fail
  refine (rTotal_any _ _ _ _ ps l _ _ _ HM.out HM2.out (HP.out.next (below_next HB.out hb13)) (HI.out.next (below_next HB.out hb13))).mono ?_
  rintro e w4 ⟨rfl, hb4⟩
  go_wp2
  go_ret
  exact ⟨rfl, below_next HB.out (below_next hb13 hb4)⟩
end Go.Proofs.Ytdmcddhepgodhaa
