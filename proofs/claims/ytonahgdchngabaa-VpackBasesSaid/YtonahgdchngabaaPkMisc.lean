/- Total, Few, the law's rule. -/
import Derived.Test.YtonahgdchngabaaPkCen
import Derived.Test.YtonahgdchngabaaBoxRRule
namespace Go.Proofs.Ytonahgdchngabaa
open Go.RowKit
theorem few_any {r : Bool} (l : List Bx) (m : Nat) (A : Option Addr) (c : Nat) (w : World) (hm : m < 100000) (hr : decide (1 + cntL l ≤ m) = r) (hK : Kids w 0 w.heap.size A l) :
    Calls Try.prog 9 #[.slice A l.length c, .int .i64 (m : Int)] w fun e w' => e = .returned (.bool r) ∧ Below w.heap.size w w' := by
  have hb : decide (cntB (.mk 0 ⟨#[]⟩ 0 0 0 0 0 0 l 0 []) ≤ m) = r := by rw [cntB_eq]; exact hr
  have HB := Lib.hid hb
  have HK := Lib.hid hK
  clear hb hr hK
  go_enter Try.func9, Try.ntmps9
  go_wp2_with fail
  refine (rfew_any (.mk 0 ⟨#[]⟩ 0 0 0 0 0 0 l 0 []) m A c none 0 w hm HB.out HK.out).mono ?_
  rintro e w1 ⟨rfl, hb1⟩
  have HB1 := Lib.hid hb1
  clear hb1
  go_wp2
  go_ret
  exact ⟨rfl, HB1.out⟩
theorem total_any (t : Bx) (A : Option Addr) (c : Nat) (A' : Option Addr) (c' : Nat) (w : World) :
    Calls Try.prog 16 #[.agg (bxA t A c A' c')] w fun e w' => e = .returned (.int .i64 (IntKind.i64.wrap (t.h + t.d))) ∧ Below w.heap.size w w' := by
  have d0 := blk_new w (.cells (bxA t A c A' c') 27)
  have e4 : (w.alloc (.cells (bxA t A c A' c') 27)).cell? ⟨w.heap.size, 4, none⟩ = some (.int .i64 t.h) := blk_cell d0 4 _ rfl
  have e5 : (w.alloc (.cells (bxA t A c A' c') 27)).cell? ⟨w.heap.size, 5, none⟩ = some (.int .i64 t.d) := blk_cell d0 5 _ rfl
  have HB := Lib.hid (one_below w (.cells (bxA t A c A' c') 27))
  clear d0
  obtain ⟨s, hs⟩ : ∃ s, IntKind.i64.wrap (t.h + t.d) = s := ⟨_, rfl⟩
  rw [hs]
  go_enter Try.func16, Try.ntmps16
  go_wp2
  go_ret
  exact ⟨rfl, HB.out⟩
theorem lrule_any (a b : Int) (w : World) :
    Calls Try.prog 19 #[.int .i64 a, .int .i64 b] w fun e w' => e = .returned (.agg (bxA (ruleB' 9 a b) none 0 none 0)) ∧ Below w.heap.size w w' := by
  obtain ⟨i0, hi0, hz0, hz1, hz2⟩ := info_parts infoBox
  have D0 : Hid ((w.alloc (.cells zeroBox 27)).heap[w.heap.size]? = some (.cells zeroBox 27 (0, 0))) := blk_new _ _
  go_enter Try.func19, Try.ntmps19
  go_wp2_with fail
  refine (rrule_any 9 a b (w.alloc (.cells zeroBox 27))).mono ?_
  rintro e w1 ⟨rfl, hb1⟩
  have D1 := Lib.hid ((hb1.block w.heap.size (by simp)).trans D0.out)
  have HB1 := Lib.hid (below_next (one_below w _) hb1)
  clear hb1
  go_wp2_with ((with_reducible refine at_store 27 ?_); go_loud (refine wpList_store_all i0 11 hi0 hz1 rfl rfl rfl D1.out (by decide) (bxA_one (ruleB' 9 a b) none 0 none 0) ?_); rw [row_all _ _ rfl rfl])
  refine bodyPost_ret (results_cell_all rfl _ i0 11 hi0 hz1 _ Try.underlying27 rfl rfl (fun j _ => by rw [Nat.zero_add]; exact cell_setRow_same _ _ _ _ _ _ _ D1.out)) rfl ?_
  exact ⟨rfl, below_setRow HB1.out (Nat.le_refl _) _⟩
end Go.Proofs.Ytonahgdchngabaa
