/- Two rows of numbers: are they alike? -/
import Derived.Test.YtjckbdbjcgjcaaaM1
import Derived.Test.YtjckbdbjcgjcaaaChecked
namespace Go.Proofs.Ytjckbdbjcgjcaaa
open Go.RowKit
theorem eq_of_lAt {a b : List Int} (hl : a.length = b.length) (h : ∀ k, k < a.length → lAt a k = lAt b k) : a = b := by
  refine List.ext_getElem hl fun k h1 h2 => ?_
  have := h k h1
  simpa [lAt, List.getD, h1, h2] using this
set_option maxHeartbeats 1000000 in
theorem rsame_any {r : Bool} (A B : Option Addr) (ca cb : Nat) (a b : List Int) (w : World) (hr : r = true ↔ a = b) (ha : a.length ≤ lenMax) (hb : b.length ≤ lenMax) (hA : Ints w 0 w.heap.size A a) (hB : Ints w 0 w.heap.size B b) :
    Calls Try.prog 38 #[.slice A a.length ca, .slice B b.length cb] w fun e w' => e = .returned (.bool r) ∧ Below w.heap.size w w' := by
  have ha' : a.length ≤ 9223372036854775807 := ha
  have hb' : b.length ≤ 9223372036854775807 := hb
  have HA := Lib.hid hA
  have HBB := Lib.hid hB
  have HR := Lib.hid hr
  clear hA hB ha hb hr
  by_cases hl : a.length = b.length
  · have HL := Lib.hid hl
    rw [← hl]
    clear hl hb'
    go_enter Try.func38, Try.ntmps38
    go_wp2_with fail
    go_loopw [5] (fun q wr => ∃ k : Nat, k ≤ a.length ∧ q = .int .i64 (k : Int) ∧ (∀ m, m < k → lAt a m = lAt b m) ∧ Below w.heap.size w wr) (fun q _ => a.length - (intOf q).toNat)
    case atStart => exact ⟨0, Nat.zero_le _, rfl, fun m hm => absurd hm (Nat.not_lt_zero _), Below.refl _ _⟩
    case round =>
      obtain ⟨k, hk, rfl, hall, hbw⟩ := hrel
      have HALL := Lib.hid hall
      have HBW := Lib.hid hbw
      clear hall hbw
      by_cases hlt : k < a.length
      · obtain ⟨bA, oA, rfl, _, hbA, hcA⟩ := HA.out (by omega)
        obtain ⟨bB, oB, rfl, _, hbB, hcB⟩ := HBB.out (by have := HL.out; omega)
        have l1 := (HBW.out.cell (p := ⟨bA, oA + k, none⟩) hbA).trans (hcA k hlt)
        have l2 := (HBW.out.cell (p := ⟨bB, oB + k, none⟩) hbB).trans (hcB k (by have := HL.out; omega))
        clear hcA hcB
        by_cases hxy : lAt a k = lAt b k
        · have HXY := Lib.hid hxy
          rw [← hxy] at l2
          clear hxy
          go_wp2_with fail
          go_quiet (fail)
          go_wp2_with fail
          go_roundw
          case rel => exact ⟨k + 1, by omega, by go_num, fun m hm => by rcases Nat.lt_succ_iff_lt_or_eq.1 hm with h | rfl; exact HALL.out m h; exact HXY.out, below_drewN HBW.out nq⟩
          case measure => simp [intOf]; omega
        · have HXY := Lib.hid hxy
          have q1 : (lAt a k != lAt b k) = true := by simp [hxy]
          have q2 : decide (lAt a k = lAt b k) = false := by simp [hxy]
          have q3 : (lAt a k == lAt b k) = false := by simp [hxy]
          go_wp2_with fail
          go_quiet (fail)
          go_wp2
          go_ret
          exact ⟨ret_bool (is_false HR.out (fun e => HXY.out (by rw [e]))), below_drewN HBW.out nq⟩
      · obtain rfl : k = a.length := by omega
        go_wp2
        go_ret
        exact ⟨ret_bool (is_true HR.out (eq_of_lAt HL.out HALL.out)), HBW.out⟩
  · have HL := Lib.hid hl
    have q0 : ¬ ((a.length : Int) = (b.length : Int)) := by omega
    go_enter Try.func38, Try.ntmps38
    go_wp2
    go_ret
    exact ⟨ret_bool (is_false HR.out (fun e => HL.out (by rw [e]))), Below.refl _ _⟩
end Go.Proofs.Ytjckbdbjcgjcaaa
