/- certificate's paragraph.valid. -/
import Derived.Test.YtkamffjncndabaaKit
namespace Go.Proofs.Ytkamffjncndabaa
open Go.RowKit
set_option maxHeartbeats 2000000 in
theorem cvalid_any (A : Option Addr) (c : Nat) (ps : List Pc) (wd ind : Int) (w : World) (hm : ps.length ≤ lenMax) (hP : Pcs w w.heap.size A ps) :
    Calls Try.prog 24 #[.agg #[.slice A ps.length c, .int .i64 wd, .int .i64 ind]] w fun e w' => e = .returned (.bool (parB ps wd ind)) ∧ Below w.heap.size w w' := by
  have HM := Lib.hid hm
  have HP := Lib.hid hP
  clear hm hP
  have HB : Hid (Below w.heap.size w (w.alloc (.cells #[.slice A ps.length c, .int .i64 wd, .int .i64 ind] 54))) := (Below.refl _ _).alloc (Nat.le_refl _) _
  cases hv : validB ps
  · have HV := Lib.hid hv
    have HR : Hid (parB ps wd ind = false) := by show _ = _; unfold parB; rw [hv]; rfl
    clear hv
    go_enter Try.func24, Try.ntmps24
    go_wp2_with fail
    refine (valid_at _ _ ps _ HV.out HM.out (HP.out.next HB.out)).mono ?_
    rintro e w1 ⟨rfl, hb1⟩
    go_wp2
    go_ret
    exact ⟨ret_bool HR.out.symm, below_next HB.out hb1⟩
  · have HV := Lib.hid hv
    clear hv
    have hcase : (wd < 1 ∨ (1 ≤ wd ∧ 10000000 < wd) ∨ (1 ≤ wd ∧ wd ≤ 10000000 ∧ ind < 0) ∨ (1 ≤ wd ∧ wd ≤ 10000000 ∧ 0 ≤ ind ∧ wd ≤ ind)) ∨ (1 ≤ wd ∧ wd ≤ 10000000 ∧ 0 ≤ ind ∧ ind < wd) := by omega
    rcases hcase with hcase | ⟨q1, q2, q3, q4⟩
    · have HR : Hid (parB ps wd ind = false) := by
        show _ = _
        rw [Bool.eq_false_iff]
        intro h
        have := fitsB_iff.1 (parB_iff.1 h).2
        omega
      rcases hcase with q | ⟨q, q2⟩ | ⟨q, q2, q3⟩ | ⟨q, q2, q3, q4⟩
      all_goals
        go_enter Try.func24, Try.ntmps24
        go_wp2_with fail
        refine (valid_at _ _ ps _ HV.out HM.out (HP.out.next HB.out)).mono ?_
        rintro e w1 ⟨rfl, hb1⟩
        have f1 := kept_box hb1 1 _ rfl
        have f2 := kept_box hb1 2 _ rfl
        go_wp2
        go_ret
        first
          | exact ⟨ret_bool HR.out.symm, below_next HB.out hb1⟩
          | exact ⟨ret_bool (by rw [HR.out]; simp; omega), below_next HB.out hb1⟩
    · have HR : Hid (parB ps wd ind = true) := parB_iff.2 ⟨HV.out, fitsB_iff.2 ⟨q1, q2, q3, q4⟩⟩
      go_enter Try.func24, Try.ntmps24
      go_wp2_with fail
      refine (valid_at _ _ ps _ HV.out HM.out (HP.out.next HB.out)).mono ?_
      rintro e w1 ⟨rfl, hb1⟩
      have f1 := kept_box hb1 1 _ rfl
      have f2 := kept_box hb1 2 _ rfl
      go_wp2
      go_ret
      first
        | exact ⟨ret_bool HR.out.symm, below_next HB.out hb1⟩
        | exact ⟨ret_bool (by rw [HR.out]; simp; omega), below_next HB.out hb1⟩
theorem cvalid_at {b : Bool} (A : Option Addr) (c : Nat) (ps : List Pc) (wd ind : Int) (w : World) (hb : parB ps wd ind = b) (hm : ps.length ≤ lenMax) (hP : Pcs w w.heap.size A ps) :
    Calls Try.prog 24 #[.agg #[.slice A ps.length c, .int .i64 wd, .int .i64 ind]] w fun e w' => e = .returned (.bool b) ∧ Below w.heap.size w w' := by
  rw [← hb]; exact cvalid_any A c ps wd ind w hm hP
end Go.Proofs.Ytkamffjncndabaa
