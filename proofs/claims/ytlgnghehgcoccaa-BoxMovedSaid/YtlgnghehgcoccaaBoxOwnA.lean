/- The program's named, source, own. -/
import Derived.Test.YtlgnghehgcoccaaBoxName
namespace Go.Proofs.Ytlgnghehgcoccaa
open Go.RowKit
set_option maxHeartbeats 1000000 in
theorem bname_any {r : Bool} (s : ByteArray) (w : World) (hm : s.size ≤ lenMax) (hr : r = true ↔ nameOk s) :
    Calls Try.prog 40 #[.string s] w fun e w' => e = .returned (.bool r) ∧ Below w.heap.size w w' := by
  have HR := Lib.hid hr
  have hm' : s.size ≤ 9223372036854775807 := hm
  clear hr hm
  go_enter Try.func40, Try.ntmps40
  go_wp2_with fail
  go_loopw [3] (fun q wr => ∃ k : Nat, k ≤ s.size ∧ q = .int .i64 (k : Int) ∧ (∀ i, i < k → 32 ≤ byteAt s i ∧ byteAt s i ≤ 126) ∧ wr = w) (fun q _ => s.size - (intOf q).toNat)
  case atStart => exact ⟨0, Nat.zero_le _, rfl, fun i h => absurd h (Nat.not_lt_zero _), rfl⟩
  case round =>
    obtain ⟨k, hk, rfl, hall, rfl⟩ := hrel
    have HALL := Lib.hid hall
    clear hall
    by_cases hlt : k < s.size
    · have hx := byteAt_in hlt
      obtain ⟨x, hx'⟩ : ∃ x, byteAt s k = x := ⟨_, rfl⟩
      rw [hx'] at hx
      have HX := Lib.hid hx'
      clear hx'
      by_cases h1 : x < 32
      · have d1 : decide ((x : Int) < 32) = true := decide_eq_true (by omega)
        go_wp2
        go_ret
        exact ⟨ret_bool (is_false HR.out fun h => by have := (h.2 k hlt).1; rw [HX.out] at this; omega), Below.refl _ _⟩
      · have d1 : decide ((x : Int) < 32) = false := decide_eq_false (by omega)
        by_cases h2 : 126 < x
        · have d2 : decide (126 < (x : Int)) = true := decide_eq_true (by omega)
          go_wp2
          go_ret
          exact ⟨ret_bool (is_false HR.out fun h => by have := (h.2 k hlt).2; rw [HX.out] at this; omega), Below.refl _ _⟩
        · have d2 : decide (126 < (x : Int)) = false := decide_eq_false (by omega)
          go_wp2
          go_roundw
          case rel => exact ⟨k + 1, by omega, by go_num, fun i hi => by rcases Nat.lt_succ_iff_lt_or_eq.1 hi with h | rfl; exact HALL.out i h; rw [HX.out]; omega, trivial⟩
          case measure => simp [intOf]; omega
    · obtain rfl : k = s.size := by omega
      by_cases h1 : 1 ≤ s.size
      · have d1 : decide (1 ≤ (s.size : Int)) = true := decide_eq_true (by omega)
        go_wp2
        go_ret
        refine ⟨ret_bool ?_, Below.refl _ _⟩
        by_cases h2 : s.size ≤ 16
        · have d2 : decide ((s.size : Int) ≤ 16) = true := decide_eq_true (by omega)
          first | exact d2.trans (is_true HR.out ⟨⟨h1, h2⟩, HALL.out⟩) | (rw [← is_true HR.out ⟨⟨h1, h2⟩, HALL.out⟩]; simp <;> omega)
        · have d2 : decide ((s.size : Int) ≤ 16) = false := decide_eq_false (by omega)
          first | exact d2.trans (is_false HR.out fun h => h2 h.1.2) | (rw [← is_false HR.out fun h => h2 h.1.2]; simp <;> omega)
      · have d1 : decide (1 ≤ (s.size : Int)) = false := decide_eq_false (by omega)
        go_wp2
        go_ret
        exact ⟨ret_bool (is_false HR.out fun h => h1 h.1.1), Below.refl _ _⟩
set_option maxHeartbeats 1000000 in
theorem bsource_any {r : Bool} (t : Bx) (b o_ : Nat) (A : Option Addr) (c : Nat) (A' : Option Addr) (c' : Nat) (w : World) (hm : t.src.length ≤ lenMax) (hr : r = true ↔ srcOk t) (hat : BoxAt w b o_ t A c A' c') (hI : Ints w 0 w.heap.size A' t.src) :
    Calls Try.prog 41 #[.pointer (some ⟨b, o_, none⟩)] w fun e w' => e = .returned (.bool r) ∧ Below w.heap.size w w' := by
  have HR := Lib.hid hr
  have hm' : t.src.length ≤ 9223372036854775807 := hm
  have HI := Lib.hid hI
  obtain ⟨_, _, _, _, _, _, _, _, _, d9, d10⟩ := hat.cells
  clear hr hm hI hat
  go_enter Try.func41, Try.ntmps41
  go_wp2_with fail
  go_loopw [11] (fun q wr => ∃ k : Nat, k ≤ t.src.length ∧ q = .int .i64 (k : Int) ∧ (∀ i, i < k → 0 ≤ lAt t.src i) ∧ wr = w) (fun q _ => t.src.length - (intOf q).toNat)
  case atStart => exact ⟨0, Nat.zero_le _, rfl, fun i h => absurd h (Nat.not_lt_zero _), rfl⟩
  case round =>
    obtain ⟨k, hk, rfl, hall, rfl⟩ := hrel
    have HALL := Lib.hid hall
    clear hall
    by_cases hlt : k < t.src.length
    · obtain ⟨b1, off, rfl, _, hb, hc⟩ := HI.out (by omega)
      have e0 := hc k hlt
      obtain ⟨x, hx⟩ : ∃ x, lAt t.src k = x := ⟨_, rfl⟩
      rw [hx] at e0
      have HX := Lib.hid hx
      clear hx hc
      by_cases h1 : x < 0
      · go_wp2
        go_ret
        exact ⟨ret_bool (is_false HR.out fun h => by have := h.1 k hlt; rw [HX.out] at this; omega), Below.refl _ _⟩
      · go_wp2
        go_roundw
        case rel => exact ⟨k + 1, by omega, by go_num, fun i hi => by rcases Nat.lt_succ_iff_lt_or_eq.1 hi with h | rfl; exact HALL.out i h; rw [HX.out]; omega, trivial⟩
        case measure => simp [intOf]; omega
    · obtain rfl : k = t.src.length := by omega
      have HS : Hid (srcOk t ↔ lenOk t.of_ t.src.length) := ⟨fun h => h.2, fun h => ⟨HALL.out, h⟩⟩
      obtain ⟨n, hn⟩ : ∃ n, t.src.length = n := ⟨_, rfl⟩
      obtain ⟨o, ho⟩ : ∃ o, t.of_ = o := ⟨_, rfl⟩
      rw [hn] at d10 hm' ⊢
      rw [ho] at d9
      rw [hn, ho] at HS
      clear HALL hk hlt hn ho HI
      by_cases o0 : o = 0
      · subst o0
        go_wp2
        go_ret
        refine ⟨ret_bool ?_, Below.refl _ _⟩
        by_cases h2 : n = 0
        · rw [← is_true HR.out (HS.out.2 (.inl ⟨rfl, h2⟩))]; simp [h2]
        · rw [← is_false HR.out (fun h => by have := HS.out.1 h; unfold lenOk at this; omega)]; simp [h2]
      · by_cases o1 : o = 1
        · subst o1
          by_cases h2 : n % 2 = 0
          · have hn2 : (n : Int) % 2 = 0 := by omega
            have hn3 : (n : Int).tmod 2 = 0 := by rw [Int.tmod_eq_emod_of_nonneg (by omega)]; exact hn2
            go_wp2
            go_ret
            refine ⟨ret_bool ?_, Below.refl _ _⟩
            by_cases h3 : n ≤ 48
            · rw [← is_true HR.out (HS.out.2 (.inr (.inl ⟨rfl, h2, h3⟩)))]; simp; omega
            · rw [← is_false HR.out (fun h => by have := HS.out.1 h; unfold lenOk at this; omega)]; simp; omega
          · have hn2 : (n : Int) % 2 = 1 := by omega
            have hn3 : (n : Int).tmod 2 = 1 := by rw [Int.tmod_eq_emod_of_nonneg (by omega)]; exact hn2
            go_wp2
            go_ret
            refine ⟨ret_bool ?_, Below.refl _ _⟩
            rw [← is_false HR.out (fun h => by have := HS.out.1 h; unfold lenOk at this; omega)]
        · by_cases o2 : o = 2
          · subst o2
            by_cases h2 : n % 2 = 1
            · have hn2 : (n : Int) % 2 = 1 := by omega
              have hn3 : (n : Int).tmod 2 = 1 := by rw [Int.tmod_eq_emod_of_nonneg (by omega)]; exact hn2
              go_wp2
              go_ret
              refine ⟨ret_bool ?_, Below.refl _ _⟩
              by_cases h3 : n ≤ 49
              · rw [← is_true HR.out (HS.out.2 (.inr (.inr ⟨rfl, h2, h3⟩)))]; simp; omega
              · rw [← is_false HR.out (fun h => by have := HS.out.1 h; unfold lenOk at this; omega)]; simp; omega
            · have hn2 : (n : Int) % 2 = 0 := by omega
              have hn3 : (n : Int).tmod 2 = 0 := by rw [Int.tmod_eq_emod_of_nonneg (by omega)]; exact hn2
              go_wp2
              go_ret
              refine ⟨ret_bool ?_, Below.refl _ _⟩
              rw [← is_false HR.out (fun h => by have := HS.out.1 h; unfold lenOk at this; omega)]
          · have q0 : (o == 0) = false := by simp [o0]
            have q1 : (o == 1) = false := by simp [o1]
            have q2 : (o == 2) = false := by simp [o2]
            go_wp2
            go_ret
            exact ⟨ret_bool (is_false HR.out (fun h => by have := HS.out.1 h; unfold lenOk at this; omega)), Below.refl _ _⟩
end Go.Proofs.Ytlgnghehgcoccaa
