/- The law's own question whether the program is at work. -/
import Derived.Test.YtlgnghehgcoccaaBoxRule
import Derived.Test.YtlgnghehgcoccaaBoxAt
namespace Go.Proofs.Ytlgnghehgcoccaa
open Go.RowKit
/-- A row of one box without kids that has been laid into a block of its own. -/
theorem kids_one {w : World} {g : Nat} {t : TypeId} {u : Bx} {A : Option Addr} {c : Nat} {A' : Option Addr} {c' : Nat} (hg : w.heap[g]? = some (.cells (bxA u A c A' c') t (0, 0))) (hk : u.kids = []) (hI : Ints w 0 w.heap.size A' u.src) (hl : lens u) : Kids w 0 w.heap.size (some ⟨g, 0, none⟩) [u] := by
  have hgl : g < w.heap.size := (Array.getElem?_eq_some_iff.1 hg).1
  refine .mk _ _ (fun _ => A) (fun _ => A') (fun _ => c) (fun _ => c') (fun _ => ⟨g, 0, rfl, Nat.zero_le _, hgl, fun i hi j hj => ?_⟩) (fun i hi => ?_) (fun i hi => ?_) (fun i hi => ?_)
  · obtain rfl : i = 0 := by simp at hi; exact hi
    rw [show 0 + 0 * 11 + j = j by omega]
    exact cell_of_row _ _ _ _ _ _ hg
  · obtain rfl : i = 0 := by simp at hi; exact hi
    exact hI
  · obtain rfl : i = 0 := by simp at hi; exact hi
    exact hl
  · obtain rfl : i = 0 := by simp at hi; exact hi
    show Kids w 0 w.heap.size A u.kids
    rw [hk]
    exact Kids.nil _ _ _ _
theorem ints_nil (w : World) (lo hi : Nat) (A : Option Addr) : Ints w lo hi A [] := fun h => absurd h (by simp)
set_option maxRecDepth 100000 in
set_option maxHeartbeats 1000000 in
theorem bawake_any (w : World) : Calls Try.prog 7 #[] w fun e w' => e = .returned (.bool true) ∧ Below w.heap.size w w' := by
  go_enter Try.func7, Try.ntmps7
  go_wp2_with fail
  refine (rule_any 10 4 0 w).mono ?_
  rintro e w1 ⟨rfl, hb1⟩
  have HB1 := Lib.hid hb1
  clear hb1
  go_wp2_with fail
  refine (at_any (ruleB 10 4 0) 2 3 none 0 none 0 w1 (by decide) (ints_nil _ _ _ _)).mono ?_
  rintro e w2 ⟨⟨A2, c2, rfl, hI2⟩, hb2⟩
  have HB2 := Lib.hid (below_next HB1.out hb2)
  clear hI2 hb2
  go_wp2_with fail
  have hk : Kids (w2.alloc (.cells (bxA ((ruleB 10 4 0).at_ 2 3) none 0 A2 c2) 25)) 0 (w2.alloc (.cells (bxA ((ruleB 10 4 0).at_ 2 3) none 0 A2 c2) 25)).heap.size (some ⟨w2.heap.size, 0, none⟩) [(ruleB 10 4 0).at_ 2 3] :=
    kids_one (blk_new w2 _) rfl (ints_nil _ _ _ _) ⟨by decide, by decide, by decide⟩
  have hb3 := below_next HB2.out (one_below w2 (.cells (bxA ((ruleB 10 4 0).at_ 2 3) none 0 A2 c2) 25))
  have HB3 := Lib.hid hb3
  have HK := Lib.hid hk
  clear hk hb3
  refine (extent_any (some ⟨w2.heap.size, 0, none⟩) 1 [(ruleB 10 4 0).at_ 2 3] _ (by decide) HK.out).mono ?_
  rintro e w3 ⟨rfl, hb4⟩
  have e1 : (extN [(ruleB 10 4 0).at_ 2 3] [(ruleB 10 4 0).at_ 2 3].length).1 = 2 := by decide +kernel
  have e2 : (extN [(ruleB 10 4 0).at_ 2 3] [(ruleB 10 4 0).at_ 2 3].length).2.1 = 12 := by decide +kernel
  have e3 : (extN [(ruleB 10 4 0).at_ 2 3] [(ruleB 10 4 0).at_ 2 3].length).2.2.1 = 7 := by decide +kernel
  have e4 : (extN [(ruleB 10 4 0).at_ 2 3] [(ruleB 10 4 0).at_ 2 3].length).2.2.2 = -3 := by decide +kernel
  rw [e1, e2, e3, e4]
  have HB4 := Lib.hid (below_next HB3.out hb4)
  clear hb4 e1 e2 e3 e4
  go_wp2
  go_ret
  exact ⟨rfl, HB4.out⟩
end Go.Proofs.Ytlgnghehgcoccaa
