/- The reference's Rule. -/
import Derived.Test.YtjckbdbjcgjcaaaM1
namespace Go.Proofs.Ytjckbdbjcgjcaaa
open Go.RowKit
def ruleB' (W H D : Int) : Bx := .mk 2 ⟨#[]⟩ 0 W H D 0 0 [] 0 []
set_option maxRecDepth 100000 in
set_option maxHeartbeats 4000000 in
theorem rrule_any (a b c : Int) (w : World) :
    Calls Try.prog 50 #[.int .i64 a, .int .i64 b, .int .i64 c] w fun e w' => e = .returned (.agg (bxA (ruleB' a b c) none 0 none 0)) ∧ Below w.heap.size w w' := by
  obtain ⟨i0, hi0, hz0, hz1, hz2⟩ := info_parts infoBox
  have D0 : Hid ((w.alloc (.cells zeroBox 28)).heap[w.heap.size]? = some (.cells zeroBox 28 (0, 0))) := blk_new _ _
  go_enter Try.func50, Try.ntmps50
  go_wp2_with ((with_reducible refine at_store 28 ?_); go_loud (refine wpList_store_all i0 11 hi0 hz1 rfl rfl rfl D0.out (by decide) (bxA_one (ruleB' a b c) none 0 none 0) ?_); rw [row_all _ _ rfl rfl])
  refine bodyPost_ret (results_cell_all rfl _ i0 11 hi0 hz1 _ Try.underlying28 rfl rfl (fun j _ => by rw [Nat.zero_add]; exact cell_setRow_same _ _ _ _ _ _ _ D0.out)) rfl ?_
  exact ⟨rfl, below_setRow (one_below _ _) (Nat.le_refl _) _⟩
end Go.Proofs.Ytjckbdbjcgjcaaa
