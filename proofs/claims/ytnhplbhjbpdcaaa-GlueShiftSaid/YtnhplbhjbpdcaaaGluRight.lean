/- Whether a list and a width are valid. -/
import Derived.Test.YtnhplbhjbpdcaaaGluBad
namespace Go.Proofs.Ytnhplbhjbpdcaaa
open Go.RowKit
theorem right_dec (l : List Gl) (wd : Int) : ∃ r : Bool, r = true ↔ (VG l ∧ rngW wd) := by
  by_cases h : VG l ∧ rngW wd
  · exact ⟨true, by simp [h]⟩
  · exact ⟨false, by simp [h]⟩
theorem right_any {r : Bool} (A : Option Addr) (c : Nat) (l : List Gl) (wd : Int) (w : World) (hr : r = true ↔ (VG l ∧ rngW wd)) (hm : l.length ≤ lenMax) (hP : Gls w w.heap.size A l) :
    Calls Try.prog 25 #[.slice A l.length c, .int .i64 wd] w fun e w' => e = .returned (.bool r) ∧ Below w.heap.size w w' := by
  have HM := Lib.hid hm
  have HP := Lib.hid hP
  clear hm hP
  by_cases hv : VG l
  · have HV := Lib.hid hv
    by_cases hw : rngW wd
    · have hrt : r = true := hr.2 ⟨hv, hw⟩
      subst hrt
      obtain ⟨h1, h2⟩ := hw
      clear hr hv
      go_enter Try.func25, Try.ntmps25
      go_wp2_with fail
      refine (rvalidg_any (r := true) _ _ l _ HM.out HP.out (yes_iff HV.out)).mono ?_
      rintro e w1 ⟨rfl, hb1⟩
      go_wp2
      go_ret
      exact ⟨by simp <;> omega, hb1⟩
    · have hrf : r = false := by
        cases r with
        | false => rfl
        | true => exact absurd (hr.1 rfl).2 hw
      subst hrf
      have hw' := not_rng hw
      clear hr hv hw
      rcases hw' with h1 | ⟨h1, h2⟩
      all_goals
        go_enter Try.func25, Try.ntmps25
        go_wp2_with fail
        refine (rvalidg_any (r := true) _ _ l _ HM.out HP.out (yes_iff HV.out)).mono ?_
        rintro e w1 ⟨rfl, hb1⟩
        go_wp2
        go_ret
        exact ⟨by simp <;> omega, hb1⟩
  · have hrf : r = false := by
      cases r with
      | false => rfl
      | true => exact absurd (hr.1 rfl).1 hv
    subst hrf
    have HV := Lib.hid hv
    clear hr hv
    go_enter Try.func25, Try.ntmps25
    go_wp2_with fail
    refine (rvalidg_any (r := false) _ _ l _ HM.out HP.out (no_iff HV.out)).mono ?_
    rintro e w1 ⟨rfl, hb1⟩
    go_wp2
    go_ret
    exact ⟨rfl, hb1⟩
end Go.Proofs.Ytnhplbhjbpdcaaa
