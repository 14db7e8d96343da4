/- The references length, Length and badness. -/
import Derived.Test.YtkamffjncndabaaRefValid
import Derived.Test.YtkamffjncndabaaDemLine2
import Derived.Deep.QuietTactic
import Derived.BigQuiet
namespace Go.Proofs.Ytkamffjncndabaa
open Go.RowKit
theorem below_drewN {B : Nat} {a w : World} (h : Below B a w) (k : Nat) : Below B a (w.drewN k) := ⟨h.os, h.tape, h.output, h.size, h.block⟩
set_option maxHeartbeats 2000000 in
theorem rlength_nat (A : Option Addr) (c : Nat) (ps : List Pc) (i j : Nat) (w : World) (hi : i < j) (hj : j ≤ ps.length) (hv : validB ps = true) (hP : Pcs w w.heap.size A ps) :
    Calls Try.prog 49 #[.slice A ps.length c, .int .i64 (i : Int), .int .i64 (j : Int)] w fun e w' => e = .returned (.int .i64 (lenL ps i j)) ∧ Below w.heap.size w w' := by
  have hv' := validB_iff.1 hv
  have h64 := hv'.1.2
  obtain ⟨b, off, rfl, hB, hc⟩ := hP (by omega)
  have ci := (hc i (by omega)).1
  have H1 : Hid (lenR ps i 1 = wdAt ps i) := by show _ = _; simp [lenR]
  go_enter Try.func49, Try.ntmps49
  go_wp2
  go_loopw [7, 8] (fun s k wr => ∃ d : Nat, 1 ≤ d ∧ i + d ≤ j ∧ s = .int .i64 (lenR ps i d) ∧ k = .int .i64 ((i : Int) + (d : Int)) ∧ Below w.heap.size w wr) (fun _ k _ => j - (intOf k).toNat)
  case atStart => exact ⟨1, by omega, by omega, by rw [H1.out], by go_num, Below.refl _ _⟩
  case round =>
    obtain ⟨d, hd1, hd2, rfl, rfl, hnx⟩ := hrel
    by_cases hlt : i + d < j
    · obtain ⟨c0, c1, _⟩ := hc (i + d) (by omega)
      replace c0 := (hnx.cell (p := ⟨b, off + (i + d) * 3, none⟩) hB).trans c0
      replace c1 := (hnx.cell (p := ⟨b, off + (i + d) * 3 + 1, none⟩) hB).trans c1
      have hal := allOk_at hv'.2 (k := i + d) (by omega)
      have hb0 := lenR_bound hv'.2 i d (by omega)
      have HE : Hid (lenR ps i (d + 1) = lenR ps i d + (spAt ps (i + d) + wdAt ps (i + d))) := by show _ = _; rw [lenR, if_neg (by omega)]; omega
      have s1 : IntKind.i64.wrap (spAt ps (i + d) + wdAt ps (i + d)) = spAt ps (i + d) + wdAt ps (i + d) := IntWalk.i64_in _ (by omega)
      have s2 : IntKind.i64.wrap (lenR ps i d + (spAt ps (i + d) + wdAt ps (i + d))) = lenR ps i d + (spAt ps (i + d) + wdAt ps (i + d)) := IntWalk.i64_in _ (by omega)
      have HV := Lib.hid hv
      clear hc hv' hP hv ci
      go_wp2
      go_quiet (fail)
      clear s1 s2
      go_wp2
      go_roundw
      case rel => exact ⟨d + 1, by omega, by omega, by rw [HE.out], by go_num, below_drewN hnx _⟩
      case measure => simp [intOf]; omega
    · obtain rfl : j = i + d := by omega
      have HE : Hid (lenL ps i (i + d) = lenR ps i d) := by show _ = _; unfold lenL; rw [show i + d - i = d from by omega]
      clear hc hv' hP hv ci
      go_wp2
      go_ret
      exact ⟨ret_int HE.out.symm, hnx⟩

theorem rlength_any (A : Option Addr) (c : Nat) (ps : List Pc) (i j : Int) (w : World) (h0 : 0 ≤ i) (hi : i < j) (hj : j ≤ (ps.length : Int)) (hv : validB ps = true) (hP : Pcs w w.heap.size A ps) :
    Calls Try.prog 49 #[.slice A ps.length c, .int .i64 i, .int .i64 j] w fun e w' => e = .returned (.int .i64 (lenL ps i.toNat j.toNat)) ∧ Below w.heap.size w w' := by
  obtain ⟨a, rfl⟩ := Int.eq_ofNat_of_zero_le h0
  obtain ⟨b, rfl⟩ := Int.eq_ofNat_of_zero_le (show 0 ≤ j by omega)
  simp only [Int.toNat_natCast]
  exact rlength_nat A c ps a b w (by omega) (by omega) hv hP
theorem rvalid_at {b : Bool} (A : Option Addr) (c : Nat) (ps : List Pc) (w : World) (hv : validB ps = b) (hm : ps.length ≤ lenMax) (hP : Pcs w w.heap.size A ps) :
    Calls Try.prog 31 #[.slice A ps.length c] w fun e w' => e = .returned (.bool b) ∧ Below w.heap.size w w' := by
  rw [← hv]; exact rvalid_any A c ps w hm hP

set_option maxHeartbeats 2000000 in
theorem rLength_any (A : Option Addr) (c : Nat) (ps : List Pc) (i j : Int) (w : World) (hm : ps.length ≤ lenMax) (hP : Pcs w w.heap.size A ps) :
    Calls Try.prog 45 #[.slice A ps.length c, .int .i64 i, .int .i64 j] w fun e w' => e = .returned (.tuple #[.int .i64 (lenN ps i j), .int .i64 (lenE ps i j)]) ∧ Below w.heap.size w w' := by
  have hm' : ps.length ≤ 9223372036854775807 := hm
  have HM := Lib.hid hm
  have HP := Lib.hid hP
  clear hm hP
  rcases lenE_cases ps i j with ⟨hv, e1, e2⟩ | ⟨hv, ⟨hr, e1, e2⟩ | ⟨r1, r2, r3, e1, e2⟩⟩
  · have HE1 := Lib.hid e1
    have HE2 := Lib.hid e2
    have HV := Lib.hid hv
    clear e1 e2 hv
    go_enter Try.func45, Try.ntmps45
    go_wp2_with (go_at_call 31; refine (rvalid_at _ c ps _ HV.out HM.out HP.out).mono ?_; rintro e w1 ⟨rfl, hb⟩)
    go_ret2
    exact ⟨ret_two HE2.out.symm HE1.out.symm, hb⟩
  · have HE1 := Lib.hid e1
    have HE2 := Lib.hid e2
    have HV := Lib.hid hv
    clear e1 e2 hv
    rcases hr with hr | ⟨hr, hr2⟩ | ⟨hr, hr2, hr3⟩
    all_goals
      go_enter Try.func45, Try.ntmps45
      go_wp2_with (go_at_call 31; refine (rvalid_at _ c ps _ HV.out HM.out HP.out).mono ?_; rintro e w1 ⟨rfl, hb⟩)
      go_ret2
      exact ⟨ret_two HE2.out.symm HE1.out.symm, hb⟩
  · have HE1 := Lib.hid e1
    have HE2 := Lib.hid e2
    have HV := Lib.hid hv
    clear e1 e2 hv
    go_enter Try.func45, Try.ntmps45
    go_wp2_with (first
      | (go_at_call 31; refine (rvalid_at _ c ps _ HV.out HM.out HP.out).mono ?_; rintro e w1 ⟨rfl, hb⟩)
      | (go_at_call 49; refine (rlength_any _ c ps i j _ r1 r2 r3 HV.out ((HP.out.below hb).mono hb.size)).mono ?_; rintro e w2 ⟨rfl, hb2⟩))
    go_ret2
    exact ⟨ret_two HE2.out.symm HE1.out.symm, hb.trans (hb2.mono hb.size)⟩

theorem badV_1 {ps : List Pc} {i j : Nat} {w : Int} (h : w - lenL ps i j < 0) : badV ps i j w = 20000 - (w - lenL ps i j) := by unfold badV; rw [if_pos h]
theorem badV_2 {ps : List Pc} {i j : Nat} {w : Int} (h : ¬ w - lenL ps i j < 0) (hj : ¬ j < ps.length) : badV ps i j w = 0 := by unfold badV; rw [if_neg h, if_neg hj]
theorem badV_3 {ps : List Pc} {i j : Nat} {w : Int} (h : ¬ w - lenL ps i j < 0) (hj : j < ps.length) (hq : 100 * (w - lenL ps i j) / w < 100) : badV ps i j w = 100 * (w - lenL ps i j) / w * (100 * (w - lenL ps i j) / w) := by
  unfold badV; rw [if_neg h, if_pos hj, show min (100 * (w - lenL ps i j) / w) 100 = 100 * (w - lenL ps i j) / w from by omega]
theorem badV_4 {ps : List Pc} {i j : Nat} {w : Int} (h : ¬ w - lenL ps i j < 0) (hj : j < ps.length) (hq : 100 ≤ 100 * (w - lenL ps i j) / w) : badV ps i j w = 10000 := by
  unfold badV; rw [if_neg h, if_pos hj, show min (100 * (w - lenL ps i j) / w) 100 = 100 from by omega]; rfl

set_option maxHeartbeats 2000000 in
theorem rbad_nat (A : Option Addr) (c : Nat) (ps : List Pc) (i j : Nat) (wd : Int) (w : World) (hi : i < j) (hj : j ≤ ps.length) (h1 : 1 ≤ wd) (h2 : wd ≤ 10000000) (hv : validB ps = true) (hP : Pcs w w.heap.size A ps) :
    Calls Try.prog 46 #[.slice A ps.length c, .int .i64 (i : Int), .int .i64 (j : Int), .int .i64 wd] w fun e w' => e = .returned (.int .i64 (badV ps i j wd)) ∧ Below w.heap.size w w' := by
  have h64 := (validB_iff.1 hv).1.2
  have hlb := lenL_bound hv (i := i) hj
  have HV := Lib.hid hv
  have HP := Lib.hid hP
  clear hv hP
  have hw : wrap64 10000 = 10000 := IntWalk.wrap64_in _ (by omega)
  have HL : ∀ w' : World, Below w.heap.size w w' → Calls Try.prog 49 #[.slice A ps.length c, .int .i64 (i : Int), .int .i64 (j : Int)] w' fun e w'' => e = .returned (.int .i64 (lenL ps i j)) ∧ Below w'.heap.size w' w'' := fun w' hb =>
    rlength_nat _ c ps i j w' hi hj HV.out (HP.out.next hb)
  have HL' := Lib.hid HL
  clear HL
  have hcase : (wd - lenL ps i j < 0) ∨ (¬ wd - lenL ps i j < 0 ∧ ¬ j < ps.length) ∨ (¬ wd - lenL ps i j < 0 ∧ j < ps.length ∧ 100 * (wd - lenL ps i j) / wd < 100) ∨ (¬ wd - lenL ps i j < 0 ∧ j < ps.length ∧ 100 ≤ 100 * (wd - lenL ps i j) / wd) := by omega
  rcases hcase with d1 | ⟨d1, hjn⟩ | ⟨d1, hjn, hq⟩ | ⟨d1, hjn, hq⟩
  · have HD := Lib.hid (badV_1 d1)
    clear hw
    go_enter Try.func46, Try.ntmps46
    go_wp2_with (go_at_call 49; refine (HL'.out _ (Below.refl _ _)).mono ?_; rintro e w1 ⟨rfl, hb⟩)
    go_ret
    exact ⟨ret_int HD.out.symm, hb⟩
  · have HD := Lib.hid (badV_2 d1 hjn)
    have ht : ((j : Int) == (ps.length : Int)) = true := by rw [beq_iff_eq]; omega
    clear hw
    go_enter Try.func46, Try.ntmps46
    go_wp2_with (go_at_call 49; refine (HL'.out _ (Below.refl _ _)).mono ?_; rintro e w1 ⟨rfl, hb⟩)
    go_ret
    exact ⟨ret_int HD.out.symm, hb⟩
  · have HD := Lib.hid (badV_3 d1 hjn hq)
    have ht : ((j : Int) == (ps.length : Int)) = false := by rw [beq_eq_false_iff_ne]; omega
    have hr0 : 0 ≤ 100 * (wd - lenL ps i j) / wd := Int.ediv_nonneg (by omega) (by omega)
    have hsq := sq_bound hr0 (by omega)
    clear hw
    go_enter Try.func46, Try.ntmps46
    go_wp2_with (go_at_call 49; refine (HL'.out _ (Below.refl _ _)).mono ?_; rintro e w1 ⟨rfl, hb⟩)
    go_ret
    exact ⟨ret_int HD.out.symm, hb⟩
  · have HD := Lib.hid (badV_4 d1 hjn hq)
    have ht : ((j : Int) == (ps.length : Int)) = false := by rw [beq_eq_false_iff_ne]; omega
    go_enter Try.func46, Try.ntmps46
    go_wp2_with (go_at_call 49; refine (HL'.out _ (Below.refl _ _)).mono ?_; rintro e w1 ⟨rfl, hb⟩)
    go_ret
    exact ⟨ret_int HD.out.symm, hb⟩
theorem rbad_any (A : Option Addr) (c : Nat) (ps : List Pc) (i j wd : Int) (w : World) (h0 : 0 ≤ i) (hi : i < j) (hj : j ≤ (ps.length : Int)) (h1 : 1 ≤ wd) (h2 : wd ≤ 10000000) (hv : validB ps = true) (hP : Pcs w w.heap.size A ps) :
    Calls Try.prog 46 #[.slice A ps.length c, .int .i64 i, .int .i64 j, .int .i64 wd] w fun e w' => e = .returned (.int .i64 (badV ps i.toNat j.toNat wd)) ∧ Below w.heap.size w w' := by
  obtain ⟨a, rfl⟩ := Int.eq_ofNat_of_zero_le h0
  obtain ⟨b, rfl⟩ := Int.eq_ofNat_of_zero_le (show 0 ≤ j by omega)
  simp only [Int.toNat_natCast]
  exact rbad_nat A c ps a b wd w (by omega) (by omega) h1 h2 hv hP
end Go.Proofs.Ytkamffjncndabaa
