/- Lengths: Valid and Half, the program's and the reference's. -/
import Derived.Test.YtjckbdbjcgjcaaaM1
import Derived.Test.YtjckbdbjcgjcaaaChecked
import Derived.IntWalk
namespace Go.Proofs.Ytjckbdbjcgjcaaa
open Go.RowKit
/-- Half a number, rounded away from zero. -/
def halfI (n : Int) : Int := if 0 ≤ n then (n + 1) / 2 else -((-n + 1) / 2)
theorem halfI_bounds {n : Int} (h : rngL n) : -536870912 ≤ halfI n ∧ halfI n ≤ 536870912 := by
  unfold rngL at h
  unfold halfI
  split <;> omega
theorem lvalid_any {r : Bool} (n : Int) (w : World) (hr : r = true ↔ rngL n) :
    Calls Try.prog 30 #[.int .i64 n] w fun e w' => e = .returned (.bool r) ∧ w' = w := by
  by_cases h1 : -1073741824 ≤ n
  · by_cases h2 : n ≤ 1073741824
    · rw [← is_true hr ⟨h1, h2⟩]
      clear hr
      go_enter Try.func30, Try.ntmps30
      go_wp2
      go_ret
      exact ⟨rfl, rfl⟩
    · rw [← is_false hr (fun h => h2 h.2)]
      clear hr
      have h3 : 1073741824 < n := by omega
      go_enter Try.func30, Try.ntmps30
      go_wp2
      go_ret
      exact ⟨rfl, rfl⟩
  · rw [← is_false hr (fun h => h1 h.1)]
    clear hr
    have h3 : n < -1073741824 := by omega
    go_enter Try.func30, Try.ntmps30
    go_wp2
    go_ret
    exact ⟨rfl, rfl⟩
theorem rlvalid_any {r : Bool} (n : Int) (w : World) (hr : r = true ↔ rngL n) :
    Calls Try.prog 36 #[.int .i64 n] w fun e w' => e = .returned (.bool r) ∧ w' = w := by
  by_cases h1 : -1073741824 ≤ n
  · by_cases h2 : n ≤ 1073741824
    · rw [← is_true hr ⟨h1, h2⟩]
      clear hr
      go_enter Try.func36, Try.ntmps36
      go_wp2
      go_ret
      exact ⟨rfl, rfl⟩
    · rw [← is_false hr (fun h => h2 h.2)]
      clear hr
      have h3 : 1073741824 < n := by omega
      go_enter Try.func36, Try.ntmps36
      go_wp2
      go_ret
      exact ⟨rfl, rfl⟩
  · rw [← is_false hr (fun h => h1 h.1)]
    clear hr
    have h3 : n < -1073741824 := by omega
    go_enter Try.func36, Try.ntmps36
    go_wp2
    go_ret
    exact ⟨rfl, rfl⟩
theorem size_any (n : Int) (w : World) (h : rngL n) :
    Calls Try.prog 68 #[.int .i64 n] w fun e w' => e = .returned (.int .i64 (if n < 0 then -n else n)) ∧ w' = w := by
  unfold rngL at h
  obtain ⟨h1, h2⟩ := h
  by_cases h0 : n < 0
  · have e1 : IntKind.i64.wrap (-n) = -n := IntWalk.i64_in _ (by omega)
    rw [if_pos h0]
    go_enter Try.func68, Try.ntmps68
    go_wp2
    go_ret
    exact ⟨rfl, rfl⟩
  · rw [if_neg h0]
    go_enter Try.func68, Try.ntmps68
    go_wp2
    go_ret
    exact ⟨rfl, rfl⟩
set_option maxHeartbeats 1000000 in
theorem round_any (n : Int) (w : World) (h : rngL n) :
    Calls Try.prog 48 #[.int .i64 n, .int .i64 2] w fun e w' => e = .returned (.int .i64 (halfI n)) ∧ w' = w := by
  have hb := halfI_bounds h
  have HH := Lib.hid h
  unfold rngL at h
  obtain ⟨h1, h2⟩ := h
  by_cases h0 : n < 0
  · have hq : halfI n = -((-n * 2 + 2) / 4) := by unfold halfI; rw [if_neg (by omega)]; omega
    obtain ⟨m, hm⟩ : ∃ m, (-n * 2 + 2) / 4 = m := ⟨_, rfl⟩
    have hm2 : 0 ≤ m ∧ m ≤ 536870913 := by omega
    have e0 : IntKind.i64.wrap (2 * -n) = -n * 2 := by rw [IntWalk.i64_in _ (by omega)]; omega
    have e1 : IntKind.i64.wrap (-n * 2 + 2) = -n * 2 + 2 := IntWalk.i64_in _ (by omega)
    have e2 : (-n * 2 + 2).tdiv 4 = m := by rw [Int.tdiv_eq_ediv_of_nonneg (by omega)]; exact hm
    have e3 : IntKind.i64.wrap m = m := IntWalk.i64_in _ (by omega)
    have e4 : IntKind.i64.wrap (-m) = -m := IntWalk.i64_in _ (by omega)
    rw [hm] at hq
    rw [hq]
    go_enter Try.func48, Try.ntmps48
    go_wp2_with fail
    refine (size_any n _ HH.out).mono ?_
    rintro e w1 ⟨rfl, rfl⟩
    rw [if_pos h0]
    go_wp2_with fail
    refine (size_any 2 _ ⟨by decide, by decide⟩).mono ?_
    rintro e w1 ⟨rfl, rfl⟩
    go_wp2_with fail
    refine (size_any 2 _ ⟨by decide, by decide⟩).mono ?_
    rintro e w1 ⟨rfl, rfl⟩
    go_wp2_with fail
    go_ret
    exact ⟨rfl, rfl⟩
  · have hq : halfI n = (n * 2 + 2) / 4 := by unfold halfI; rw [if_pos (by omega)]; omega
    obtain ⟨m, hm⟩ : ∃ m, (n * 2 + 2) / 4 = m := ⟨_, rfl⟩
    have hm2 : 0 ≤ m ∧ m ≤ 536870913 := by omega
    have e0 : IntKind.i64.wrap (2 * n) = n * 2 := by rw [IntWalk.i64_in _ (by omega)]; omega
    have e1 : IntKind.i64.wrap (n * 2 + 2) = n * 2 + 2 := IntWalk.i64_in _ (by omega)
    have e2 : (n * 2 + 2).tdiv 4 = m := by rw [Int.tdiv_eq_ediv_of_nonneg (by omega)]; exact hm
    have e3 : IntKind.i64.wrap m = m := IntWalk.i64_in _ (by omega)
    rw [hm] at hq
    rw [hq]
    go_enter Try.func48, Try.ntmps48
    go_wp2_with fail
    refine (size_any n _ HH.out).mono ?_
    rintro e w1 ⟨rfl, rfl⟩
    rw [if_neg (by omega)]
    go_wp2_with fail
    refine (size_any 2 _ ⟨by decide, by decide⟩).mono ?_
    rintro e w1 ⟨rfl, rfl⟩
    go_wp2_with fail
    refine (size_any 2 _ ⟨by decide, by decide⟩).mono ?_
    rintro e w1 ⟨rfl, rfl⟩
    go_wp2_with fail
    go_ret
    exact ⟨rfl, rfl⟩
theorem rhalf_any (n : Int) (w : World) (h : rngL n) :
    Calls Try.prog 23 #[.int .i64 n] w fun e w' => e = .returned (.int .i64 (halfI n)) ∧ w' = w := by
  go_enter Try.func23, Try.ntmps23
  go_wp2_with fail
  refine (rlvalid_any (r := true) n _ (yes_iff h)).mono ?_
  rintro e w1 ⟨rfl, rfl⟩
  go_wp2_with fail
  refine (round_any n _ h).mono ?_
  rintro e w1 ⟨rfl, rfl⟩
  go_wp2
  go_ret
  exact ⟨rfl, rfl⟩
theorem quotient_of (n q r v : Int) (w : World) (h : rngL n) (hq : n.tdiv 2 = q) (hr : n.tmod 2 = r) (hv : (r = 0 ∧ v = q) ∨ (r = 1 ∧ v = q + 1) ∨ (r = -1 ∧ v = q - 1)) (hb : -536870912 ≤ q ∧ q ≤ 536870912) :
    Calls Try.prog 67 #[.int .i64 n, .int .i64 2] w fun e w' => e = .returned (.int .i64 v) ∧ Below w.heap.size w w' := by
  unfold rngL at h
  obtain ⟨h1, h2⟩ := h
  have wq : IntKind.i64.wrap q = q := IntWalk.i64_in _ (by omega)
  have w1 : IntKind.i64.wrap (q + 1) = q + 1 := IntWalk.i64_in _ (by omega)
  have w2 : IntKind.i64.wrap (q - 1) = q - 1 := IntWalk.i64_in _ (by omega)
  rcases hv with ⟨rfl, rfl⟩ | ⟨rfl, rfl⟩ | ⟨rfl, rfl⟩
  all_goals
    go_enter Try.func67, Try.ntmps67
    go_wp2_with fail
    go_quiet (fail)
    go_wp2
    go_ret
    exact ⟨rfl, below_drewN (Below.refl _ _) nq⟩
theorem quotient_any (n : Int) (w : World) (h : rngL n) :
    Calls Try.prog 67 #[.int .i64 n, .int .i64 2] w fun e w' => e = .returned (.int .i64 (halfI n)) ∧ Below w.heap.size w w' := by
  have h' := h
  unfold rngL at h'
  by_cases h0 : 0 ≤ n
  · have e1 : n.tdiv 2 = n / 2 := Int.tdiv_eq_ediv_of_nonneg h0
    have e2 : n.tmod 2 = n % 2 := Int.tmod_eq_emod_of_nonneg h0
    refine quotient_of n (n / 2) (n % 2) (halfI n) w h e1 e2 ?_ (by omega)
    unfold halfI
    rw [if_pos h0]
    omega
  · obtain ⟨m, rfl⟩ : ∃ m, n = -m := ⟨-n, by omega⟩
    have e1 : (-m).tdiv 2 = -(m / 2) := by rw [Int.neg_tdiv, Int.tdiv_eq_ediv_of_nonneg (by omega)]
    have e2 : (-m).tmod 2 = -(m % 2) := by rw [Int.neg_tmod, Int.tmod_eq_emod_of_nonneg (by omega)]
    refine quotient_of (-m) (-(m / 2)) (-(m % 2)) (halfI (-m)) w h e1 e2 ?_ (by omega)
    unfold halfI
    rw [if_neg h0]
    omega
theorem half_any (n : Int) (w : World) (h : rngL n) :
    Calls Try.prog 47 #[.int .i64 n] w fun e w' => e = .returned (.int .i64 (halfI n)) ∧ Below w.heap.size w w' := by
  go_enter Try.func47, Try.ntmps47
  go_wp2_with fail
  refine (lvalid_any (r := true) n _ (yes_iff h)).mono ?_
  rintro e w1 ⟨rfl, rfl⟩
  go_wp2_with fail
  refine (quotient_any n _ h).mono ?_
  rintro e w1 ⟨rfl, hb⟩
  have HB := Lib.hid hb
  clear hb
  go_wp2
  go_ret
  exact ⟨rfl, HB.out⟩
end Go.Proofs.Ytjckbdbjcgjcaaa
