/- The reference's before. -/
import Derived.Test.YtogkjaohphnflaaBrkSub
import Derived.Test.YtogkjaohphnflaaBrkSame
namespace Go.Proofs.Ytogkjaohphnflaa
open Go.RowKit
def nAt (l : List Nat) (k : Nat) : Nat := l.getD k 0
theorem nAt_drop {l : List Nat} {k : Nat} (hk : k < l.length) : l.drop k = nAt l k :: l.drop (k + 1) := by
  rw [List.drop_eq_getElem_cons hk]
  simp [nAt, List.getD, hk]
theorem bef_drop {a b : List Nat} : ∀ k : Nat, k ≤ a.length → k ≤ b.length → (∀ m, m < k → nAt a m = nAt b m) → bef a b = bef (a.drop k) (b.drop k)
  | 0, _, _, _ => rfl
  | k + 1, ha, hb, h => by
    rw [bef_drop k (by omega) (by omega) (fun m hm => h m (by omega)), nAt_drop (by omega), nAt_drop (l := b) (by omega), h k (by omega)]
    simp [bef]
theorem lAt_nAt (l : List Nat) (k : Nat) : lAt (l.map Int.ofNat) k = (nAt l k : Int) := by
  unfold lAt nAt
  by_cases h : k < l.length
  · simp [List.getD, h]
  · simp [List.getD, List.getElem?_eq_none (show l.length ≤ k by omega)]
set_option maxHeartbeats 1000000 in
theorem before_any {r : Bool} (A B : Option Addr) (ca cb : Nat) (a b : List Nat) (w : World) (hr : bef a b = r) (ha : a.length ≤ 64) (hb : b.length ≤ 64) (hA : Ints w w.heap.size A (a.map Int.ofNat)) (hB : Ints w w.heap.size B (b.map Int.ofNat)) :
    Calls Try.prog 40 #[.slice A a.length ca, .slice B b.length cb] w fun e w' => e = .returned (.bool r) ∧ Below w.heap.size w w' := by
  have HA := Lib.hid hA
  have HBB := Lib.hid hB
  have HR := Lib.hid hr
  clear hA hB hr
  go_enter Try.func40, Try.ntmps40
  go_wp2_with fail
  go_loopw [5] (fun q wr => ∃ k : Nat, k ≤ a.length ∧ k ≤ b.length ∧ q = .int .i64 (k : Int) ∧ (∀ m, m < k → nAt a m = nAt b m) ∧ Below w.heap.size w wr) (fun q _ => a.length - (intOf q).toNat)
  case atStart => exact ⟨0, Nat.zero_le _, Nat.zero_le _, rfl, fun m hm => absurd hm (Nat.not_lt_zero _), Below.refl _ _⟩
  case round =>
    obtain ⟨k, hk, hk2, rfl, hall, hbw⟩ := hrel
    have HALL := Lib.hid hall
    have HBW := Lib.hid hbw
    clear hall hbw
    by_cases hlt : k < a.length
    · by_cases hlt2 : k < b.length
      · obtain ⟨bA, oA, rfl, hbA, hcA⟩ := HA.out (by rw [List.length_map]; omega)
        obtain ⟨bB, oB, rfl, hbB, hcB⟩ := HBB.out (by rw [List.length_map]; omega)
        have l1 := (HBW.out.cell (p := ⟨bA, oA + k, none⟩) hbA).trans (hcA k (by rw [List.length_map]; exact hlt))
        have l2 := (HBW.out.cell (p := ⟨bB, oB + k, none⟩) hbB).trans (hcB k (by rw [List.length_map]; exact hlt2))
        rw [lAt_nAt] at l1 l2
        clear hcA hcB
        by_cases hxy : nAt a k = nAt b k
        · have HXY := Lib.hid hxy
          rw [← hxy] at l2
          clear hxy
          go_wp2_with fail
          go_quiet (fail)
          go_wp2_with fail
          go_roundw
          case rel => exact ⟨k + 1, by omega, by omega, by go_num, fun m hm => by rcases Nat.lt_succ_iff_lt_or_eq.1 hm with h | rfl; exact HALL.out m h; exact HXY.out, below_drewN HBW.out nq⟩
          case measure => simp [intOf]; omega
        · have q1 : ((nAt a k : Int) != (nAt b k : Int)) = true := by simp; omega
          have q2 : decide ((nAt a k : Int) = (nAt b k : Int)) = false := by simp; omega
          have q3 : ((nAt a k : Int) == (nAt b k : Int)) = false := by simp; omega
          have q4 : (nAt a k == nAt b k) = false := by simp; omega
          have q5 : (nAt a k != nAt b k) = true := by simp; omega
          have HF : Hid (decide (nAt a k < nAt b k) = r) := by
            show _ = _
            rw [← HR.out, bef_drop k (by omega) (by omega) HALL.out, nAt_drop hlt, nAt_drop (l := b) hlt2]
            simp [bef, hxy]
          go_wp2_with fail
          go_quiet (fail)
          go_wp2_with fail
          go_quiet (fail)
          go_wp2
          go_ret
          refine ⟨ret_bool ?_, ?_⟩
          · first
              | exact HF.out
              | (rw [← HF.out]; simp)
          · first
              | exact below_drewN HBW.out _
              | exact below_drewN (below_drewN HBW.out _) _
      · obtain rfl : k = b.length := by omega
        have HF : Hid (r = false) := by
          show _ = _
          rw [← HR.out, bef_drop b.length (by omega) (by omega) HALL.out, List.drop_length, nAt_drop hlt]
          rfl
        go_wp2
        go_ret
        exact ⟨ret_bool (by rw [HF.out]; simp; omega), HBW.out⟩
    · obtain rfl : k = a.length := by omega
      have HF : Hid (decide (a.length < b.length) = r) := by
        show _ = _
        rw [← HR.out, bef_drop a.length (by omega) (by omega) HALL.out, List.drop_length]
        by_cases h : a.length < b.length
        · rw [nAt_drop h, decide_eq_true h]; rfl
        · rw [decide_eq_false h, List.drop_eq_nil_of_le (by omega)]; rfl
      go_wp2
      go_ret
      exact ⟨ret_bool (by first | exact HF.out | (rw [← HF.out]; simp)), HBW.out⟩
end Go.Proofs.Ytogkjaohphnflaa
