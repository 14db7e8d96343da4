/- The walk of DemeritLine. -/
import Derived.Test.YtdmcddhepgodhaaLawBase
namespace Go.Proofs.Ytdmcddhepgodhaa
open Go.RowKit
set_option maxHeartbeats 4000000 in
theorem demeritLine_walk (A : Option Addr) (c : Nat) (ps : List Pc) (i j wd ind : Int) (w : World) (hm : ps.length ≤ lenMax) (hP : Pcs w w.heap.size A ps) :
    Calls Try.prog 3 #[.slice A ps.length c, .agg #[.int .i64 i, .int .i64 j, .int .i64 wd, .int .i64 ind]] w fun e w' => e = .returned (.bool true) ∧ Below w.heap.size w w' := by
  have hm' : ps.length ≤ 9223372036854775807 := hm
  have HM := Lib.hid hm
  have HP := Lib.hid hP
  clear hm hP
  have HB : Hid (Below w.heap.size w (w.alloc (.cells #[.int .i64 i, .int .i64 j, .int .i64 wd, .int .i64 ind] 24))) := (Below.refl _ _).alloc (Nat.le_refl _) _
  by_cases h70 : 70 < ps.length
  · go_enter Try.func3, Try.ntmps3
    go_wp2_with (go_at_call 9; refine (awake_any _).mono ?_; rintro e w1 ⟨rfl, hb1⟩)
    go_ret
    exact ⟨rfl, below_next HB.out hb1⟩
  · go_enter Try.func3, Try.ntmps3
    go_wp2_with fail
    refine (awake_any _).mono ?_
    rintro e w1 ⟨rfl, hb1⟩
    have f0 := kept_box hb1 0 _ rfl
    have f1 := kept_box hb1 1 _ rfl
    have hp1 := HP.out.next (below_next HB.out hb1)
    have HP1 := Lib.hid hp1
    clear hp1
    go_wp2_with fail
    refine (Length_any _ _ ps _ _ _ HM.out HP1.out).mono ?_
    rintro e w2 ⟨rfl, hb2'⟩
    have hb2 := below_next hb1 hb2'
    clear f0 f1 hb1 hb2'
    have f0 := kept_box hb2 0 _ rfl
    have f1 := kept_box hb2 1 _ rfl
    go_wp2_with fail
    refine (rLength_any _ _ ps _ _ _ HM.out (HP.out.next (below_next HB.out hb2))).mono ?_
    rintro e w3 ⟨rfl, hb3'⟩
    have hb3 := below_next hb2 hb3'
    clear f0 f1 hb2 hb3'
    have f0 := kept_box hb3 0 _ rfl
    have f1 := kept_box hb3 1 _ rfl
    have f2 := kept_box hb3 2 _ rfl
    go_wp2_with fail
    refine (Line_any _ _ ps _ _ _ _ HM.out (HP.out.next (below_next HB.out hb3))).mono ?_
    rintro e w4 ⟨rfl, hb4'⟩
    have hb4 := below_next hb3 hb4'
    clear f0 f1 f2 hb3 hb4'
    have f0 := kept_box hb4 0 _ rfl
    have f1 := kept_box hb4 1 _ rfl
    have f2 := kept_box hb4 2 _ rfl
    go_wp2_with fail
    refine (rLine_any _ _ ps _ _ _ _ HM.out (HP.out.next (below_next HB.out hb4))).mono ?_
    rintro e w5 ⟨rfl, hb5'⟩
    have hb5 := below_next hb4 hb5'
    clear f0 f1 f2 hb4 hb5'
    go_wp2_with fail
    refine (valid_any _ _ ps _ HM.out (HP.out.next (below_next HB.out hb5))).mono ?_
    rintro e w6 ⟨rfl, hb6'⟩
    have hb6 := below_next hb5 hb6'
    clear hb5 hb6'
    go_wp2_with fail
    refine (rvalid_any _ _ ps _ HM.out (HP.out.next (below_next HB.out hb6))).mono ?_
    rintro e w7 ⟨rfl, hb7'⟩
    have hb7 := below_next hb6 hb7'
    go_wp2
    go_ret
    exact ⟨rfl, below_next HB.out hb7⟩
end Go.Proofs.Ytdmcddhepgodhaa
