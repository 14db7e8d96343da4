/- The references Fits and Starts. -/
import Derived.Test.YtkamffjncndabaaRefLine
namespace Go.Proofs.Ytkamffjncndabaa
open Go.RowKit
set_option maxHeartbeats 1000000 in
theorem rfits_any (wd ind : Int) (w : World) : Calls Try.prog 32 #[.int .i64 wd, .int .i64 ind] w fun e w' => e = .returned (.bool (fitsB wd ind)) ∧ Below w.heap.size w w' := by
  by_cases h1 : 1 ≤ wd ∧ wd ≤ 10000000
  · obtain ⟨a1, a2⟩ := h1
    have HV : Hid (decide (0 ≤ ind ∧ ind ≤ wd - 1) = fitsB wd ind) := by
      show decide _ = _
      unfold fitsB
      rw [decide_eq_true (show 1 ≤ wd ∧ wd ≤ 10000000 from ⟨a1, a2⟩), Bool.true_and]
      congr 1
      rw [eq_iff_iff]
      omega
    go_enter Try.func32, Try.ntmps32
    go_wp2_with fail
    refine (within_yes _ _ _ _ a1 a2).mono ?_
    rintro e w1 ⟨rfl, hb1⟩
    go_wp2_with fail
    refine (within_at _ _ _ _ HV.out).mono ?_
    rintro e w2 ⟨rfl, hb2⟩
    go_wp2
    go_ret
    exact ⟨rfl, below_next hb1 hb2⟩
  · have HV : Hid (fitsB wd ind = false) := by
      show _ = _
      unfold fitsB
      rw [decide_eq_false h1, Bool.false_and]
    have H1 : Hid (wd < 1 ∨ (1 ≤ wd ∧ 10000000 < wd)) := by show _ ∨ _; omega
    clear h1
    go_enter Try.func32, Try.ntmps32
    go_wp2_with fail
    refine (within_no _ _ _ _ H1.out).mono ?_
    rintro e w1 ⟨rfl, hb1⟩
    go_wp2
    go_ret
    exact ⟨ret_bool HV.out.symm, hb1⟩
theorem rfits_at {b : Bool} (wd ind : Int) (w : World) (h : fitsB wd ind = b) : Calls Try.prog 32 #[.int .i64 wd, .int .i64 ind] w fun e w' => e = .returned (.bool b) ∧ Below w.heap.size w w' := by
  rw [← h]; exact rfits_any wd ind w

set_option maxHeartbeats 4000000 in
theorem rstarts_any (A : Option Addr) (c : Nat) (l : List Int) (n : Nat) (w : World) (hm : l.length ≤ lenMax) (hI : Ints w w.heap.size A l) :
    Calls Try.prog 30 #[.int .i64 (n : Int), .slice A l.length c] w fun e w' => e = .returned (.bool (startsB n l)) ∧ Below w.heap.size w w' := by
  unfold lenMax at hm
  go_enter Try.func30, Try.ntmps30
  go_wp2
  go_loopw [5] (fun i wr => ∃ k : Nat, k ≤ l.length ∧ i = .int .i64 k ∧ (okSts n l k = true ∧ (0 < k → lAt l 0 = 0)) ∧ Below w.heap.size w wr) (fun i _ => l.length - (intOf i).toNat)
  case atStart => exact ⟨0, Nat.zero_le _, rfl, ⟨rfl, fun h => absurd h (by omega)⟩, Below.refl _ _⟩
  case round =>
    obtain ⟨k, hk, rfl, hall, hnx⟩ := hrel
    have HA := Lib.hid hall
    clear hall
    by_cases hlt : k < l.length
    · obtain ⟨b, off, rfl, hB, hc⟩ := hI (by omega)
      have ck := (hnx.cell (p := ⟨b, off + k, none⟩) hB).trans (hc k hlt)
      have HS : Hid (okSts n l (k + 1) = okSt n l k) := by
        show (okSts n l k && okSt n l k) = _
        rw [HA.out.1, Bool.true_and]
      have HN : Hid (¬ okSt n l k = true → startsB n l = false) := fun h => startsB_no hlt (by simpa using h)
      have HZ : Hid (startsB n l = true → lAt l 0 = 0) := fun h => (startsB_iff.1 h).2.1
      have hOk := okSt_iff (n := n) (l := l) (k := k)
      have HO := Lib.hid hOk
      clear hOk
      rcases Nat.eq_zero_or_pos k with rfl | hpos
      · simp only [Nat.add_zero] at ck
        clear hc
        by_cases h1 : lAt l 0 < n
        · have tg : decide ((n : Int) ≤ lAt l 0) = false := decide_eq_false (by omega)
          by_cases h2 : lAt l 0 = 0
          · have H2 := Lib.hid h2
            have t1 : (lAt l 0 == 0) = true := by rw [beq_iff_eq]; exact h2
            have t2 : (lAt l 0 != 0) = false := by simp [h2]
            clear h2
            go_wp2
            go_quiet (fail)
            clear t1 t2
            go_wp2
            go_roundw
            case rel => exact ⟨0 + 1, by omega, by go_num, ⟨by rw [HS.out]; exact HO.out.2 ⟨h1, by simp⟩, fun _ => H2.out⟩, below_drewN hnx _⟩
            case measure => simp [intOf]; omega
          · have HV : Hid (startsB n l = false) := by
              show _ = _
              rw [Bool.eq_false_iff]
              intro h
              exact h2 (HZ.out h)
            have t1 : (lAt l 0 == 0) = false := by rw [beq_eq_false_iff_ne]; exact h2
            have t2 : (lAt l 0 != 0) = true := by simp [h2]
            clear h2
            go_wp2
            go_quiet (fail)
            clear t1 t2
            go_wp2
            go_ret
            exact ⟨ret_bool HV.out.symm, below_drewN hnx _⟩
        · have HV : Hid (startsB n l = false) := HN.out fun h => h1 (HO.out.1 h).1
          have tg : decide ((n : Int) ≤ lAt l 0) = true := decide_eq_true (by omega)
          clear h1
          go_wp2
          go_quiet (fail)
          go_wp2
          go_ret
          exact ⟨ret_bool HV.out.symm, below_drewN hnx _⟩
      · have ck1 := (hnx.cell (p := ⟨b, off + (k - 1), none⟩) hB).trans (hc (k - 1) (by omega))
        have tk : ((k : Int) == 0) = false := by rw [beq_eq_false_iff_ne]; omega
        clear hc
        have s1 : IntKind.i64.wrap ((k : Int) - 1) = (k : Int) - 1 := IntWalk.i64_in _ (by omega)
        have s2 : ((k : Int) - 1).toNat = k - 1 := by omega
        have s3 : 0 ≤ (k : Int) - 1 := by omega
        have s4 : (k : Int) - 1 < (l.length : Int) := by omega
        have tp : decide ((0 : Int) < (k : Int)) = true := decide_eq_true (by omega)
        by_cases h1 : lAt l k < n
        · have tg : decide ((n : Int) ≤ lAt l k) = false := decide_eq_false (by omega)
          by_cases h2 : lAt l (k - 1) < lAt l k
          · have th : decide (lAt l k ≤ lAt l (k - 1)) = false := decide_eq_false (by omega)
            go_wp2
            go_quiet (fail)
            clear s1 s2 tk
            go_wp2
            go_roundw
            case rel => exact ⟨k + 1, by omega, by go_num, ⟨by rw [HS.out]; exact HO.out.2 ⟨h1, .inr h2⟩, fun _ => HA.out.2 hpos⟩, below_drewN hnx _⟩
            case measure => simp [intOf]; omega
          · have HV : Hid (startsB n l = false) := HN.out fun h => by rcases (HO.out.1 h).2 with h | h <;> omega
            have th : decide (lAt l k ≤ lAt l (k - 1)) = true := decide_eq_true (by omega)
            clear h2
            go_wp2
            go_quiet (fail)
            clear s1 s2 tk
            go_wp2
            go_ret
            exact ⟨ret_bool HV.out.symm, below_drewN hnx _⟩
        · have HV : Hid (startsB n l = false) := HN.out fun h => h1 (HO.out.1 h).1
          have tg : decide ((n : Int) ≤ lAt l k) = true := decide_eq_true (by omega)
          clear h1
          go_wp2
          go_quiet (fail)
          clear s1 s2 tk
          go_wp2
          go_ret
          exact ⟨ret_bool HV.out.symm, below_drewN hnx _⟩
    · obtain rfl : k = l.length := by omega
      by_cases hp : 0 < l.length
      · have HV : Hid (startsB n l = true) := startsB_iff.2 ⟨hp, HA.out.2 hp, HA.out.1⟩
        clear hI
        go_wp2
        go_ret
        exact ⟨ret_bool HV.out.symm, hnx⟩
      · have HV : Hid (startsB n l = false) := by
          show _ = _
          rw [Bool.eq_false_iff]
          intro h
          exact hp (startsB_iff.1 h).1
        clear hI
        go_wp2
        go_ret
        exact ⟨ret_bool HV.out.symm, hnx⟩
theorem rstarts_at {r : Bool} (A : Option Addr) (c : Nat) (l : List Int) (n : Nat) (w : World) (hr : startsB n l = r) (hm : l.length ≤ lenMax) (hI : Ints w w.heap.size A l) :
    Calls Try.prog 30 #[.int .i64 (n : Int), .slice A l.length c] w fun e w' => e = .returned (.bool r) ∧ Below w.heap.size w w' := by
  rw [← hr]; exact rstarts_any A c l n w hm hI
end Go.Proofs.Ytkamffjncndabaa
