/- demerit.Valid reports whether all pieces are in range. -/
import Derived.Test.YtkamffjncndabaaDemBase
import Derived.Test.YtkamffjncndabaaProg
namespace Go.Proofs.Ytkamffjncndabaa
open Go.RowKit
theorem okPc_cases {ps : List Pc} {k : Nat} (hk : k < ps.length) : (okPc ps[k] = true ∧ 0 ≤ wdAt ps k ∧ wdAt ps k ≤ 10000000 ∧ -20000 ≤ spAt ps k ∧ spAt ps k ≤ 20000 ∧ -10000 ≤ pnAt ps k ∧ pnAt ps k ≤ 10000) ∨
    (okPc ps[k] = false ∧ (wdAt ps k < 0 ∨ (0 ≤ wdAt ps k ∧ 10000000 < wdAt ps k) ∨ (0 ≤ wdAt ps k ∧ wdAt ps k ≤ 10000000 ∧ spAt ps k < -20000) ∨ (0 ≤ wdAt ps k ∧ wdAt ps k ≤ 10000000 ∧ -20000 ≤ spAt ps k ∧ 20000 < spAt ps k) ∨
      (0 ≤ wdAt ps k ∧ wdAt ps k ≤ 10000000 ∧ -20000 ≤ spAt ps k ∧ spAt ps k ≤ 20000 ∧ pnAt ps k < -10000) ∨ (0 ≤ wdAt ps k ∧ wdAt ps k ≤ 10000000 ∧ -20000 ≤ spAt ps k ∧ spAt ps k ≤ 20000 ∧ -10000 ≤ pnAt ps k ∧ 10000 < pnAt ps k))) := by
  have e : ps.getD k ⟨0, 0, 0⟩ = ps[k] := by simp [List.getD, hk]
  unfold wdAt spAt pnAt
  rw [e]
  unfold okPc
  generalize ps[k] = p
  by_cases h : 0 ≤ p.wd ∧ p.wd ≤ 10000000 ∧ -20000 ≤ p.sp ∧ p.sp ≤ 20000 ∧ -10000 ≤ p.pn ∧ p.pn ≤ 10000
  · exact .inl ⟨decide_eq_true h, h⟩
  · refine .inr ⟨decide_eq_false h, ?_⟩
    omega
set_option maxHeartbeats 1000000 in
theorem valid_any (A : Option Addr) (c : Nat) (ps : List Pc) (w : World) (hm : ps.length ≤ lenMax) (hP : Pcs w w.heap.size A ps) :
    Calls Try.prog 33 #[.slice A ps.length c] w fun e w' => e = .returned (.bool (validB ps)) ∧ Below w.heap.size w w' := by
  unfold lenMax at hm
  obtain ⟨n, hn⟩ : ∃ n, n = ps.length := ⟨_, rfl⟩
  rw [← hn] at hm ⊢
  have HN : Hid (n = ps.length) := hn
  clear hn
  by_cases h1 : n < 1
  · have hv : validB ps = false := by
      rw [Bool.eq_false_iff]
      intro h
      have := validB_iff.1 h
      have := HN.out
      omega
    rw [hv]
    clear hv hP
    go_enter Try.func33, Try.ntmps33
    go_wp2
    go_ret
    exact ⟨rfl, Below.refl _ _⟩
  by_cases h2 : 64 < n
  · have hv : validB ps = false := by
      rw [Bool.eq_false_iff]
      intro h
      have := validB_iff.1 h
      have := HN.out
      omega
    rw [hv]
    clear hv hP
    go_enter Try.func33, Try.ntmps33
    go_wp2
    go_ret
    exact ⟨rfl, Below.refl _ _⟩
  obtain ⟨b, off, rfl, hB, hc⟩ := hP (by have := HN.out; omega)
  go_enter Try.func33, Try.ntmps33
  go_wp2
  go_loopw [15] (fun i wr => ∃ k : Nat, k ≤ n ∧ i = .int .i64 k ∧ allOk (ps.take k) = true ∧ Below w.heap.size w wr) (fun i _ => n - (intOf i).toNat)
  case atStart => exact ⟨0, Nat.zero_le _, rfl, rfl, Below.refl _ _⟩
  case round =>
    obtain ⟨k, hk, rfl, hall, hnx⟩ := hrel
    by_cases hlt : k < n
    · have hkl : k < ps.length := by have := HN.out; omega
      obtain ⟨c0, c1, c2⟩ := hc k hkl
      replace c0 := (hnx.cell (p := ⟨b, off + k * 3, none⟩) hB).trans c0
      replace c1 := (hnx.cell (p := ⟨b, off + k * 3 + 1, none⟩) hB).trans c1
      replace c2 := (hnx.cell (p := ⟨b, off + k * 3 + 2, none⟩) hB).trans c2
      have HT : Hid (allOk (ps.take (k + 1)) = okPc ps[k]) := by rw [allOk_take_succ hkl, hall]; rfl
      have HA : Hid (allOk (ps.take k) = true) := hall
      have hsz := hnx.size
      clear hall hc
      rcases okPc_cases hkl with ⟨ho, a1, a2, a3, a4, a5, a6⟩ | ⟨ho, hbad⟩
      · have HO : Hid (okPc ps[k] = true) := ho
        clear ho
        generalize wdAt ps k = W at *
        generalize spAt ps k = S at *
        generalize pnAt ps k = Q at *
        go_wp2
        go_roundw
        case rel => exact ⟨k + 1, by omega, by go_num, by rw [HT.out]; exact HO.out, hnx.alloc (by omega) _⟩
        case measure => simp [intOf]; omega
      · have hv : validB ps = false := by
          rw [Bool.eq_false_iff]
          intro h
          have h2 := (validB_iff.1 h).2
          unfold allOk at h2
          rw [List.all_eq_true] at h2
          have := h2 ps[k] (List.getElem_mem hkl)
          rw [ho] at this
          cases this
        have HV : Hid (validB ps = false) := hv
        clear hv ho
        generalize wdAt ps k = W at *
        generalize spAt ps k = S at *
        generalize pnAt ps k = Q at *
        rcases hbad with a1 | ⟨a1, a2⟩ | ⟨a1, a2, a3⟩ | ⟨a1, a2, a3, a4⟩ | ⟨a1, a2, a3, a4, a5⟩ | ⟨a1, a2, a3, a4, a5, a6⟩
        all_goals
          go_wp2
          go_ret
          exact ⟨ret_bool HV.out.symm, hnx.alloc (by omega) _⟩
    · have hv : validB ps = true := by
        obtain rfl : k = n := by omega
        have e := HN.out
        rw [e, List.take_length] at hall
        exact validB_iff.2 ⟨by omega, hall⟩
      have HV : Hid (validB ps = true) := hv
      clear hv hall
      go_wp2
      go_ret
      exact ⟨ret_bool HV.out.symm, hnx⟩
end Go.Proofs.Ytkamffjncndabaa
