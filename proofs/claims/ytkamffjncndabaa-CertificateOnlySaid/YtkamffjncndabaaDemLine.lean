/- demerit.line, Line and Length. -/
import Derived.Test.YtkamffjncndabaaDemLen
import Derived.Test.YtkamffjncndabaaDemValid
namespace Go.Proofs.Ytkamffjncndabaa
open Go.RowKit
theorem demV_long {ps : List Pc} {i j : Nat} {w : Int} (h : w - lenL ps i j < 0) : demV ps i j w = 100 + (if 0 < i then pnAt ps i else 0) + 20000 - (w - lenL ps i j) ∧ legV ps i j w = ((j : Int) == (i : Int) + 1) := by
  unfold demV badV legV
  rw [if_pos h, decide_eq_false (by omega), Bool.false_or]
  refine ⟨by omega, ?_⟩
  by_cases e : j = i + 1
  · subst e; simp
  · rw [decide_eq_false e]
    symm
    rw [beq_eq_false_iff_ne]
    omega
theorem demV_short {ps : List Pc} {i j : Nat} {w : Int} (h : ¬ w - lenL ps i j < 0) (hj : j < ps.length) (hq : 100 * (w - lenL ps i j) / w ≤ 100) : demV ps i j w = 100 + (if 0 < i then pnAt ps i else 0) + 100 * (w - lenL ps i j) / w * (100 * (w - lenL ps i j) / w) ∧ legV ps i j w = true := by
  unfold demV badV legV
  rw [if_neg h, if_pos hj, decide_eq_true (by omega), Bool.true_or, show min (100 * (w - lenL ps i j) / w) 100 = 100 * (w - lenL ps i j) / w from by omega]
  exact ⟨rfl, rfl⟩
theorem demV_bad {ps : List Pc} {i j : Nat} {w : Int} (h : ¬ w - lenL ps i j < 0) (hj : j < ps.length) (hq : ¬ 100 * (w - lenL ps i j) / w ≤ 100) : demV ps i j w = 100 + (if 0 < i then pnAt ps i else 0) + 10000 ∧ legV ps i j w = true := by
  unfold demV badV legV
  rw [if_neg h, if_pos hj, decide_eq_true (by omega), Bool.true_or, show min (100 * (w - lenL ps i j) / w) 100 = 100 from by omega]
  exact ⟨rfl, rfl⟩
theorem demV_last {ps : List Pc} {i j : Nat} {w : Int} (h : ¬ w - lenL ps i j < 0) (hj : ¬ j < ps.length) : demV ps i j w = 100 + (if 0 < i then pnAt ps i else 0) ∧ legV ps i j w = true := by
  unfold demV badV legV
  rw [if_neg h, if_neg hj, decide_eq_true (by omega), Bool.true_or]
  exact ⟨by omega, rfl⟩

set_option maxHeartbeats 2000000 in
theorem line_nat (A : Option Addr) (c : Nat) (ps : List Pc) (i j : Nat) (wd : Int) (w : World) (hi : i < j) (hj : j ≤ ps.length) (h1 : 1 ≤ wd) (h2 : wd ≤ 10000000) (hv : validB ps = true) (hP : Pcs w w.heap.size A ps) :
    Calls Try.prog 35 #[.slice A ps.length c, .int .i64 (i : Int), .int .i64 (j : Int), .int .i64 wd] w fun e w' => e = .returned (.tuple #[.int .i64 (demV ps i j wd), .bool (legV ps i j wd)]) ∧ Below w.heap.size w w' := by
  have hv' := validB_iff.1 hv
  obtain ⟨b, off, rfl, hB, hc⟩ := hP (by omega)
  obtain ⟨_, _, c2⟩ := hc i (by omega)
  have hal := allOk_at hv'.2 (k := i) (by omega)
  have hlb := lenL_bound hv (i := i) hj
  have HV := Lib.hid hv
  have HP := Lib.hid hP
  obtain ⟨n, hn⟩ : ∃ n, n = ps.length := ⟨_, rfl⟩
  have HN := Lib.hid hn
  rw [← hn] at hj ⊢
  have hn64 : n ≤ 64 := by rw [hn]; exact hv'.1.2
  clear hc hn hv hP hv'
  have HL : ∀ w' : World, Below w.heap.size w w' → Calls Try.prog 42 #[.slice (some ⟨b, off, none⟩) n c, .int .i64 (i : Int), .int .i64 (j : Int)] w' fun e w'' => e = .returned (.int .i64 (lenL ps i j)) ∧ Below w'.heap.size w' w'' := fun w' hb => by
    rw [HN.out]
    exact length_nat _ c ps i j w' hi (by have := HN.out; omega) HV.out ((HP.out.below hb).mono hb.size)
  have HL' := Lib.hid HL
  clear HL
  have hw : wrap64 10000 = 10000 := IntWalk.wrap64_in _ (by omega)
  have hcase : (wd - lenL ps i j < 0) ∨ (¬ wd - lenL ps i j < 0 ∧ j < n ∧ 100 * (wd - lenL ps i j) / wd ≤ 100) ∨ (¬ wd - lenL ps i j < 0 ∧ j < n ∧ ¬ 100 * (wd - lenL ps i j) / wd ≤ 100) ∨ (¬ wd - lenL ps i j < 0 ∧ ¬ j < n) := by omega
  by_cases hi0 : 0 < i
  all_goals
    rcases hcase with d1 | ⟨d1, hjn, hq⟩ | ⟨d1, hjn, hq⟩ | ⟨d1, hjn⟩
    · have HD := Lib.hid (demV_long d1)
      first | rw [if_pos hi0] at HD | rw [if_neg hi0, Int.add_zero] at HD
      clear hw
      go_enter Try.func35, Try.ntmps35
      go_wp2_with (go_at_call 42; refine (HL'.out _ (Below.refl _ _)).mono ?_; rintro e w1 ⟨rfl, hb⟩)
      go_ret2
      exact ⟨ret_ib HD.out.1.symm HD.out.2.symm, hb⟩
    · have HD := Lib.hid (demV_short d1 (by rw [← HN.out]; exact hjn) hq)
      first | rw [if_pos hi0] at HD | rw [if_neg hi0, Int.add_zero] at HD
      have hr0 : 0 ≤ 100 * (wd - lenL ps i j) / wd := Int.ediv_nonneg (by omega) (by omega)
      have hsq := sq_bound hr0 hq
      clear hw
      go_enter Try.func35, Try.ntmps35
      go_wp2_with (go_at_call 42; refine (HL'.out _ (Below.refl _ _)).mono ?_; rintro e w1 ⟨rfl, hb⟩)
      go_ret2
      exact ⟨ret_ib HD.out.1.symm HD.out.2.symm, hb⟩
    · have HD := Lib.hid (demV_bad d1 (by rw [← HN.out]; exact hjn) hq)
      first | rw [if_pos hi0] at HD | rw [if_neg hi0, Int.add_zero] at HD
      go_enter Try.func35, Try.ntmps35
      go_wp2_with (go_at_call 42; refine (HL'.out _ (Below.refl _ _)).mono ?_; rintro e w1 ⟨rfl, hb⟩)
      go_ret2
      exact ⟨ret_ib HD.out.1.symm HD.out.2.symm, hb⟩
    · have HD := Lib.hid (demV_last d1 (by rw [← HN.out]; exact hjn))
      first | rw [if_pos hi0] at HD | rw [if_neg hi0, Int.add_zero] at HD
      clear hw
      go_enter Try.func35, Try.ntmps35
      go_wp2_with (go_at_call 42; refine (HL'.out _ (Below.refl _ _)).mono ?_; rintro e w1 ⟨rfl, hb⟩)
      go_ret2
      exact ⟨ret_ib HD.out.1.symm HD.out.2.symm, hb⟩

theorem line_any (A : Option Addr) (c : Nat) (ps : List Pc) (i j : Int) (wd : Int) (w : World) (h0 : 0 ≤ i) (hi : i < j) (hj : j ≤ (ps.length : Int)) (h1 : 1 ≤ wd) (h2 : wd ≤ 10000000) (hv : validB ps = true) (hP : Pcs w w.heap.size A ps) :
    Calls Try.prog 35 #[.slice A ps.length c, .int .i64 i, .int .i64 j, .int .i64 wd] w fun e w' => e = .returned (.tuple #[.int .i64 (demV ps i.toNat j.toNat wd), .bool (legV ps i.toNat j.toNat wd)]) ∧ Below w.heap.size w w' := by
  obtain ⟨a, rfl⟩ := Int.eq_ofNat_of_zero_le h0
  obtain ⟨b, rfl⟩ := Int.eq_ofNat_of_zero_le (show 0 ≤ j by omega)
  simp only [Int.toNat_natCast]
  exact line_nat A c ps a b wd w (by omega) (by omega) h1 h2 hv hP
end Go.Proofs.Ytkamffjncndabaa
