
/- demerit.Line and demerit.Length. -/
import Derived.Test.YtkamffjncndabaaDemLine
namespace Go.Proofs.Ytkamffjncndabaa
open Go.RowKit
theorem valid_at {b : Bool} (A : Option Addr) (c : Nat) (ps : List Pc) (w : World) (hv : validB ps = b) (hm : ps.length ≤ lenMax) (hP : Pcs w w.heap.size A ps) :
    Calls Try.prog 33 #[.slice A ps.length c] w fun e w' => e = .returned (.bool b) ∧ Below w.heap.size w w' := by
  rw [← hv]; exact valid_any A c ps w hm hP
theorem line_at {b : Bool} (A : Option Addr) (c : Nat) (ps : List Pc) (i j : Int) (wd : Int) (w : World) (hb : legV ps i.toNat j.toNat wd = b) (h0 : 0 ≤ i) (hi : i < j) (hj : j ≤ (ps.length : Int)) (h1 : 1 ≤ wd) (h2 : wd ≤ 10000000) (hv : validB ps = true) (hP : Pcs w w.heap.size A ps) :
    Calls Try.prog 35 #[.slice A ps.length c, .int .i64 i, .int .i64 j, .int .i64 wd] w fun e w' => e = .returned (.tuple #[.int .i64 (demV ps i.toNat j.toNat wd), .bool b]) ∧ Below w.heap.size w w' := by
  rw [← hb]; exact line_any A c ps i j wd w h0 hi hj h1 h2 hv hP

theorem lineE_cases (ps : List Pc) (i j w : Int) :
    (validB ps = false ∧ lineE ps i j w = 1 ∧ lineN ps i j w = 0) ∨ (validB ps = true ∧ (
      ((w < 1 ∨ (1 ≤ w ∧ 10000000 < w)) ∧ lineE ps i j w = 1 ∧ lineN ps i j w = 0) ∨ (1 ≤ w ∧ w ≤ 10000000 ∧ (
        ((i < 0 ∨ (0 ≤ i ∧ j ≤ i) ∨ (0 ≤ i ∧ i < j ∧ (ps.length : Int) < j)) ∧ lineE ps i j w = 2 ∧ lineN ps i j w = 0) ∨ (0 ≤ i ∧ i < j ∧ j ≤ (ps.length : Int) ∧ (
          (legV ps i.toNat j.toNat w = false ∧ lineE ps i j w = 6 ∧ lineN ps i j w = 0) ∨ (legV ps i.toNat j.toNat w = true ∧ lineE ps i j w = 0 ∧ lineN ps i j w = demV ps i.toNat j.toNat w))))))) := by
  unfold lineN lineE widB
  by_cases hv : validB ps = true
  · refine .inr ⟨hv, ?_⟩
    by_cases hw : 1 ≤ w ∧ w ≤ 10000000
    · refine .inr ⟨hw.1, hw.2, ?_⟩
      rw [if_pos ⟨hv, decide_eq_true hw⟩]
      by_cases hr : i < 0 ∨ j ≤ i ∨ (ps.length : Int) < j
      · rw [if_pos hr]
        exact .inl ⟨by omega, rfl, rfl⟩
      · refine .inr ⟨by omega, by omega, by omega, ?_⟩
        rw [if_neg hr]
        cases hl : legV ps i.toNat j.toNat w
        · exact .inl ⟨rfl, rfl, rfl⟩
        · exact .inr ⟨rfl, rfl, rfl⟩
    · refine .inl ⟨by omega, ?_⟩
      rw [if_neg (by simp [hw])]
      exact ⟨rfl, rfl⟩
  · refine .inl ⟨by simpa using hv, ?_⟩
    rw [if_neg (by simp [hv])]
    exact ⟨rfl, rfl⟩
theorem lenE_cases (ps : List Pc) (i j : Int) :
    (validB ps = false ∧ lenE ps i j = 1 ∧ lenN ps i j = 0) ∨ (validB ps = true ∧ (
        ((i < 0 ∨ (0 ≤ i ∧ j ≤ i) ∨ (0 ≤ i ∧ i < j ∧ (ps.length : Int) < j)) ∧ lenE ps i j = 2 ∧ lenN ps i j = 0) ∨ (0 ≤ i ∧ i < j ∧ j ≤ (ps.length : Int) ∧ lenE ps i j = 0 ∧ lenN ps i j = lenL ps i.toNat j.toNat))) := by
  unfold lenN lenE
  by_cases hv : validB ps = true
  · refine .inr ⟨hv, ?_⟩
    rw [if_pos hv]
    by_cases hr : i < 0 ∨ j ≤ i ∨ (ps.length : Int) < j
    · rw [if_pos hr]
      exact .inl ⟨by omega, rfl, rfl⟩
    · rw [if_neg hr]
      exact .inr ⟨by omega, by omega, by omega, rfl, rfl⟩
  · refine .inl ⟨by simpa using hv, ?_⟩
    rw [if_neg hv]
    exact ⟨rfl, rfl⟩

set_option maxHeartbeats 2000000 in
theorem Line_any (A : Option Addr) (c : Nat) (ps : List Pc) (i j wd : Int) (w : World) (hm : ps.length ≤ lenMax) (hP : Pcs w w.heap.size A ps) :
    Calls Try.prog 39 #[.slice A ps.length c, .int .i64 i, .int .i64 j, .int .i64 wd] w fun e w' => e = .returned (.tuple #[.int .i64 (lineN ps i j wd), .int .i64 (lineE ps i j wd)]) ∧ Below w.heap.size w w' := by
  have hm' : ps.length ≤ 9223372036854775807 := hm
  have HM := Lib.hid hm
  have HP := Lib.hid hP
  clear hm hP
  rcases lineE_cases ps i j wd with ⟨hv, e1, e2⟩ | ⟨hv, ⟨hw, e1, e2⟩ | ⟨q1, q2, ⟨hr, e1, e2⟩ | ⟨r1, r2, r3, ⟨hl, e1, e2⟩ | ⟨hl, e1, e2⟩⟩⟩⟩
  · have HE1 := Lib.hid e1
    have HE2 := Lib.hid e2
    have HV := Lib.hid hv
    clear e1 e2 hv
    go_enter Try.func39, Try.ntmps39
    go_wp2_with (go_at_call 33; refine (valid_at _ c ps _ HV.out HM.out HP.out).mono ?_; rintro e w1 ⟨rfl, hb⟩)
    go_ret2
    exact ⟨ret_two HE2.out.symm HE1.out.symm, hb⟩
  · have HE1 := Lib.hid e1
    have HE2 := Lib.hid e2
    have HV := Lib.hid hv
    clear e1 e2 hv
    rcases hw with hw | ⟨hw, hw2⟩
    all_goals
      go_enter Try.func39, Try.ntmps39
      go_wp2_with (go_at_call 33; refine (valid_at _ c ps _ HV.out HM.out HP.out).mono ?_; rintro e w1 ⟨rfl, hb⟩)
      go_ret2
      exact ⟨ret_two HE2.out.symm HE1.out.symm, hb⟩
  · have HE1 := Lib.hid e1
    have HE2 := Lib.hid e2
    have HV := Lib.hid hv
    clear e1 e2 hv
    rcases hr with hr | ⟨hr, hr2⟩ | ⟨hr, hr2, hr3⟩
    all_goals
      go_enter Try.func39, Try.ntmps39
      go_wp2_with (go_at_call 33; refine (valid_at _ c ps _ HV.out HM.out HP.out).mono ?_; rintro e w1 ⟨rfl, hb⟩)
      go_ret2
      exact ⟨ret_two HE2.out.symm HE1.out.symm, hb⟩
  all_goals
    have HE1 := Lib.hid e1
    have HE2 := Lib.hid e2
    have HV := Lib.hid hv
    have HL := Lib.hid hl
    clear e1 e2 hv hl
    go_enter Try.func39, Try.ntmps39
    go_wp2_with (first
      | (go_at_call 33; refine (valid_at _ c ps _ HV.out HM.out HP.out).mono ?_; rintro e w1 ⟨rfl, hb⟩)
      | (go_at_call 35; refine (line_at _ c ps i j wd _ HL.out r1 r2 r3 q1 q2 HV.out ((HP.out.below hb).mono hb.size)).mono ?_; rintro e w2 ⟨rfl, hb2⟩))
    go_ret2
    exact ⟨ret_two HE2.out.symm HE1.out.symm, hb.trans (hb2.mono hb.size)⟩

end Go.Proofs.Ytkamffjncndabaa
