/- demerit.starts reports whether a list is one of starts. -/
import Derived.Test.YtkamffjncndabaaDemBase
import Derived.Test.YtkamffjncndabaaProg
import Derived.Lib.Hide
namespace Go.Proofs.Ytkamffjncndabaa
open Go.RowKit
theorem startsB_no {n : Nat} {l : List Int} {k : Nat} (hk : k < l.length) (h : okSt n l k = false) : startsB n l = false := by
  rw [Bool.eq_false_iff]
  intro h2
  have := okSts_at (startsB_iff.1 h2).2.2 hk
  rw [h] at this
  cases this
set_option maxHeartbeats 2000000 in
theorem starts_any (A : Option Addr) (c : Nat) (l : List Int) (n : Nat) (w : World) (hm : l.length ≤ lenMax) (hI : Ints w w.heap.size A l) :
    Calls Try.prog 34 #[.slice A l.length c, .int .i64 (n : Int)] w fun e w' => e = .returned (.bool (startsB n l)) ∧ Below w.heap.size w w' := by
  unfold lenMax at hm
  by_cases hl : 0 < l.length
  · obtain ⟨b, off, rfl, hB, hc⟩ := hI hl
    have c00 := hc 0 hl
    simp only [Nat.add_zero] at c00
    go_enter Try.func34, Try.ntmps34
    go_wp2
    go_loop [9] (fun i => ∃ k : Nat, k ≤ l.length ∧ i = .int .i64 k ∧ okSts n l k = true) (fun i => l.length - (intOf i).toNat)
    case atStart => exact ⟨0, Nat.zero_le _, rfl, rfl⟩
    case round =>
      obtain ⟨k, hk, rfl, hall⟩ := hrel
      have HA := Lib.hid hall
      clear hall
      by_cases hlt : k < l.length
      · have ck := hc k hlt
        have HS : Hid (okSts n l (k + 1) = okSt n l k) := by
          show (okSts n l k && okSt n l k) = _
          rw [HA.out, Bool.true_and]
        by_cases hok : okSt n l k = true
        · have h2 := okSt_iff.1 hok
          have HO := Lib.hid hok
          clear hok
          rcases Nat.eq_zero_or_pos k with rfl | hpos
          · have h3 := h2.1
            clear h2 hc
            go_wp2
            go_round
            case rel => exact ⟨0 + 1, by omega, by go_num, by rw [HS.out]; exact HO.out⟩
            case measure => simp [intOf]; omega
          · have ck1 := hc (k - 1) (by omega)
            have h3 := h2.1
            have h4 : lAt l (k - 1) < lAt l k := by omega
            clear h2 hc
            go_wp2
            go_round
            case rel => exact ⟨k + 1, by omega, by go_num, by rw [HS.out]; exact HO.out⟩
            case measure => simp [intOf]; omega
        · have HV := Lib.hid (startsB_no hlt (by simpa using hok))
          have h2 : ¬ (lAt l k < n ∧ (k = 0 ∨ lAt l (k - 1) < lAt l k)) := fun h => hok (okSt_iff.2 h)
          clear hok
          rcases Nat.eq_zero_or_pos k with rfl | hpos
          · have h3 : (n : Int) ≤ lAt l 0 := by omega
            clear h2 hc
            go_wp2
            go_ret
            exact ⟨ret_bool HV.out.symm, Below.refl _ _⟩
          · have ck1 := hc (k - 1) (by omega)
            have h3 : lAt l k ≤ lAt l (k - 1) ∨ (lAt l (k - 1) < lAt l k ∧ (n : Int) ≤ lAt l k) := by omega
            clear h2 hc
            rcases h3 with h3 | ⟨h3, h4⟩
            all_goals
              go_wp2
              go_ret
              exact ⟨ret_bool HV.out.symm, Below.refl _ _⟩
      · obtain rfl : k = l.length := by omega
        by_cases hz : lAt l 0 = 0
        · have HV : Hid (startsB n l = true) := startsB_iff.2 ⟨hl, hz, HA.out⟩
          have hz' : (lAt l 0 == 0) = true := by rw [beq_iff_eq]; exact hz
          clear hz hc
          go_wp2
          go_ret
          exact ⟨ret_bool HV.out.symm, Below.refl _ _⟩
        · have HV : Hid (startsB n l = false) := by
            show startsB n l = false
            rw [Bool.eq_false_iff]
            intro h2
            exact hz (startsB_iff.1 h2).2.1
          have hz' : (lAt l 0 == 0) = false := by rw [beq_eq_false_iff_ne]; exact hz
          clear hz hc
          go_wp2
          go_ret
          exact ⟨ret_bool HV.out.symm, Below.refl _ _⟩
  · have HV : Hid (startsB n l = false) := by
      show startsB n l = false
      rw [Bool.eq_false_iff]
      intro h2
      exact hl (startsB_iff.1 h2).1
    obtain rfl : l = [] := List.eq_nil_of_length_eq_zero (by omega)
    simp only [List.length_nil]
    clear hm hI hl
    go_enter Try.func34, Try.ntmps34
    go_wp2
    go_loop [9] (fun i => i = .int .i64 0) (fun _ => 0)
    case atStart => rfl
    case round =>
      subst hrel
      go_wp2
      go_ret
      exact ⟨ret_bool HV.out.symm, Below.refl _ _⟩
end Go.Proofs.Ytkamffjncndabaa
