/- The references within, Valid and Fits. -/
import Derived.Test.YtkamffjncndabaaDemValid
import Derived.Lib.Hide
namespace Go.Proofs.Ytkamffjncndabaa
open Go.RowKit
set_option maxHeartbeats 1000000 in
theorem within_yes (n a b : Int) (w : World) (h1 : a ≤ n) (h2 : n ≤ b) :
    Calls Try.prog 41 #[.int .i64 n, .int .i64 a, .int .i64 b] w fun e w' => e = .returned (.bool true) ∧ Below w.heap.size w w' := by
  go_enter Try.func41, Try.ntmps41
  go_wp2
  go_ret
  exact ⟨rfl, Below.refl _ _⟩
set_option maxHeartbeats 1000000 in
theorem within_no (n a b : Int) (w : World) (h : n < a ∨ (a ≤ n ∧ b < n)) :
    Calls Try.prog 41 #[.int .i64 n, .int .i64 a, .int .i64 b] w fun e w' => e = .returned (.bool false) ∧ Below w.heap.size w w' := by
  rcases h with h | ⟨h, h2⟩
  · go_enter Try.func41, Try.ntmps41
    go_wp2
    go_ret
    exact ⟨rfl, Below.refl _ _⟩
  · go_enter Try.func41, Try.ntmps41
    go_wp2
    go_ret
    exact ⟨ret_bool (decide_eq_false (by omega)), Below.refl _ _⟩
theorem within_at {r : Bool} (n a b : Int) (w : World) (h : decide (a ≤ n ∧ n ≤ b) = r) :
    Calls Try.prog 41 #[.int .i64 n, .int .i64 a, .int .i64 b] w fun e w' => e = .returned (.bool r) ∧ Below w.heap.size w w' := by
  by_cases hd : a ≤ n ∧ n ≤ b
  · rw [← h, decide_eq_true hd]; exact within_yes n a b w hd.1 hd.2
  · rw [← h, decide_eq_false hd]; exact within_no n a b w (by omega)
set_option maxHeartbeats 2000000 in
theorem rvalid_any (A : Option Addr) (c : Nat) (ps : List Pc) (w : World) (hm : ps.length ≤ lenMax) (hP : Pcs w w.heap.size A ps) :
    Calls Try.prog 31 #[.slice A ps.length c] w fun e w' => e = .returned (.bool (validB ps)) ∧ Below w.heap.size w w' := by
  unfold lenMax at hm
  go_enter Try.func31, Try.ntmps31
  go_wp2
  go_loopw [3] (fun i wr => ∃ k : Nat, k ≤ ps.length ∧ i = .int .i64 k ∧ allOk (ps.take k) = true ∧ Below w.heap.size w wr) (fun i _ => ps.length - (intOf i).toNat)
  case atStart => exact ⟨0, Nat.zero_le _, rfl, rfl, Below.refl _ _⟩
  case round =>
    obtain ⟨k, hk, rfl, hall, hnx⟩ := hrel
    by_cases hlt : k < ps.length
    · obtain ⟨b, off, rfl, hB, hc⟩ := hP (by omega)
      obtain ⟨c0, c1, c2⟩ := hc k hlt
      have d0 : ∀ W, Below wr.heap.size wr W → W.cell? ⟨b, off + k * 3, none⟩ = some (.int .i64 (wdAt ps k)) := fun W h => ((below_next hnx h).cell (p := ⟨b, off + k * 3, none⟩) hB).trans c0
      have d1 : ∀ W, Below wr.heap.size wr W → W.cell? ⟨b, off + k * 3 + 1, none⟩ = some (.int .i64 (spAt ps k)) := fun W h => ((below_next hnx h).cell (p := ⟨b, off + k * 3 + 1, none⟩) hB).trans c1
      have d2 : ∀ W, Below wr.heap.size wr W → W.cell? ⟨b, off + k * 3 + 2, none⟩ = some (.int .i64 (pnAt ps k)) := fun W h => ((below_next hnx h).cell (p := ⟨b, off + k * 3 + 2, none⟩) hB).trans c2
      have HT : Hid (allOk (ps.take (k + 1)) = okPc ps[k]) := by rw [allOk_take_succ hlt, hall]; rfl
      have e0 := d0 wr (Below.refl _ _)
      have HD1 := Lib.hid d1
      have HD2 := Lib.hid d2
      clear hall hc c0 c1 c2 d0 d1 d2 hP
      rcases okPc_cases hlt with ⟨ho, a1, a2, a3, a4, a5, a6⟩ | ⟨ho, hbad⟩
      · have HO := Lib.hid ho
        clear ho
        generalize wdAt ps k = W at *
        generalize spAt ps k = S at *
        generalize pnAt ps k = Q at *
        go_wp2_with fail
        refine (within_yes _ _ _ _ a1 a2).mono ?_
        rintro e w1 ⟨rfl, hb1⟩
        have e1 := HD1.out w1 hb1
        go_wp2_with fail
        refine (within_yes _ _ _ _ a3 a4).mono ?_
        rintro e w2 ⟨rfl, hb2⟩
        have e2 := HD2.out w2 (below_next hb1 hb2)
        go_wp2_with fail
        refine (within_yes _ _ _ _ a5 a6).mono ?_
        rintro e w3 ⟨rfl, hb3⟩
        go_wp2
        go_roundw
        case rel => exact ⟨k + 1, by omega, by go_num, by rw [HT.out]; exact HO.out, below_next hnx (below_next (below_next hb1 hb2) hb3)⟩
        case measure => simp [intOf]; omega
      · have hv : validB ps = false := by
          rw [Bool.eq_false_iff]
          intro h
          have h2 := (validB_iff.1 h).2
          unfold allOk at h2
          rw [List.all_eq_true] at h2
          have := h2 ps[k] (List.getElem_mem hlt)
          rw [ho] at this
          cases this
        have HV := Lib.hid hv
        clear hv ho HT
        generalize wdAt ps k = W at *
        generalize spAt ps k = S at *
        generalize pnAt ps k = Q at *
        have hb3 : (W < 0 ∨ (0 ≤ W ∧ 10000000 < W)) ∨ (0 ≤ W ∧ W ≤ 10000000 ∧ (S < -20000 ∨ (-20000 ≤ S ∧ 20000 < S))) ∨ (0 ≤ W ∧ W ≤ 10000000 ∧ -20000 ≤ S ∧ S ≤ 20000 ∧ (Q < -10000 ∨ (-10000 ≤ Q ∧ 10000 < Q))) := by omega
        clear hbad
        rcases hb3 with h | ⟨a1, a2, h⟩ | ⟨a1, a2, a3, a4, h⟩
        · have H := Lib.hid h
          clear h
          go_wp2_with fail
          refine (within_no _ _ _ _ H.out).mono ?_
          rintro e w1 ⟨rfl, hb1⟩
          go_wp2
          go_ret
          exact ⟨ret_bool HV.out.symm, below_next hnx hb1⟩
        · have H := Lib.hid h
          clear h
          go_wp2_with fail
          refine (within_yes _ _ _ _ a1 a2).mono ?_
          rintro e w1 ⟨rfl, hb1⟩
          have e1 := HD1.out w1 hb1
          go_wp2_with fail
          refine (within_no _ _ _ _ H.out).mono ?_
          rintro e w2 ⟨rfl, hb2⟩
          go_wp2
          go_ret
          exact ⟨ret_bool HV.out.symm, below_next hnx (below_next hb1 hb2)⟩
        · have H := Lib.hid h
          clear h
          go_wp2_with fail
          refine (within_yes _ _ _ _ a1 a2).mono ?_
          rintro e w1 ⟨rfl, hb1⟩
          have e1 := HD1.out w1 hb1
          go_wp2_with fail
          refine (within_yes _ _ _ _ a3 a4).mono ?_
          rintro e w2 ⟨rfl, hb2⟩
          have e2 := HD2.out w2 (below_next hb1 hb2)
          go_wp2_with fail
          refine (within_no _ _ _ _ H.out).mono ?_
          rintro e w3 ⟨rfl, hb3⟩
          go_wp2
          go_ret
          exact ⟨ret_bool HV.out.symm, below_next hnx (below_next (below_next hb1 hb2) hb3)⟩
    · obtain rfl : k = ps.length := by omega
      have HV : Hid (decide ((1 : Int) ≤ (ps.length : Int) ∧ (ps.length : Int) ≤ 64) = validB ps) := by
        show decide _ = _
        unfold validB
        rw [List.take_length] at hall
        rw [hall, Bool.and_true]
        congr 1
        rw [eq_iff_iff]
        omega
      clear hall hP
      go_wp2_with fail
      refine (within_at _ _ _ _ HV.out).mono ?_
      rintro e w1 ⟨rfl, hb1⟩
      go_wp2
      go_ret
      exact ⟨rfl, below_next hnx hb1⟩
end Go.Proofs.Ytkamffjncndabaa
