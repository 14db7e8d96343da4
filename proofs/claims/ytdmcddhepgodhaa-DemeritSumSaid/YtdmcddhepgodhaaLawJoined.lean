/- The walks of DemeritJoined and DemeritBounds. -/
import Derived.Test.YtdmcddhepgodhaaLawBase
namespace Go.Proofs.Ytdmcddhepgodhaa
open Go.RowKit
theorem lenR_split (ps : List Pc) (i a : Nat) (ha : 0 < a) : ∀ b : Nat, 0 < b → lenR ps i (a + b) = lenR ps i a + spAt ps (i + a) + lenR ps (i + a) b
  | 0, h => by omega
  | b + 1, _ => by
    show (if a + b = 0 then 0 else lenR ps i (a + b) + spAt ps (i + (a + b))) + wdAt ps (i + (a + b)) = _
    rw [if_neg (by omega)]
    by_cases hb : 0 < b
    · rw [lenR_split ps i a ha b hb]
      show _ = _ + ((if b = 0 then 0 else lenR ps (i + a) b + spAt ps (i + a + b)) + wdAt ps (i + a + b))
      rw [if_neg (by omega), ← Nat.add_assoc]
      omega
    · obtain rfl : b = 0 := by omega
      show _ = _ + ((if 0 = 0 then 0 else _) + wdAt ps (i + a + 0))
      rw [if_pos rfl]
      simp only [Nat.add_zero]
      omega
theorem lenL_split (ps : List Pc) {i j k : Nat} (h1 : i < j) (h2 : j < k) : lenL ps i k = lenL ps i j + spAt ps j + lenL ps j k := by
  have := lenR_split ps i (j - i) (by omega) (k - j) (by omega)
  rw [show j - i + (k - j) = k - i from by omega, show i + (j - i) = j from by omega] at this
  exact this
theorem Length_at {n' e' : Int} (A : Option Addr) (c : Nat) (ps : List Pc) (i j : Int) (w : World) (hn : lenN ps i j = n') (he : lenE ps i j = e') (hm : ps.length ≤ lenMax) (hP : Pcs w w.heap.size A ps) :
    Calls Try.prog 10 #[.slice A ps.length c, .int .i64 i, .int .i64 j] w fun e w' => e = .returned (.tuple #[.int .i64 n', .int .i64 e']) ∧ Below w.heap.size w w' := by
  rw [← hn, ← he]; exact Length_any A c ps i j w hm hP
theorem len_ok {ps : List Pc} {i j : Nat} (hv : validB ps = true) (h1 : i < j) (h2 : j ≤ ps.length) : lenN ps i j = lenL ps i j ∧ lenE ps i j = 0 := by
  rcases lenE_cases ps i j with ⟨h, _⟩ | ⟨_, ⟨h, _⟩ | ⟨_, _, _, e1, e2⟩⟩
  · rw [hv] at h; cases h
  · omega
  · simp only [Int.toNat_natCast] at e2
    exact ⟨e2, e1⟩
set_option maxHeartbeats 4000000 in
theorem demeritJoined_walk (A : Option Addr) (c : Nat) (ps : List Pc) (x y z : Int) (w : World) (hm : ps.length ≤ lenMax) (hP : Pcs w w.heap.size A ps) (hx : 0 ≤ x ∧ x ≤ 255) (hy : 0 ≤ y ∧ y ≤ 255) (hz : 0 ≤ z ∧ z ≤ 255) :
    Calls Try.prog 4 #[.slice A ps.length c, .agg #[.int .u8 x, .int .u8 y, .int .u8 z]] w fun e w' => e = .returned (.bool true) ∧ Below w.heap.size w w' := by
  have hm' : ps.length ≤ 9223372036854775807 := hm
  have HM := Lib.hid hm
  have HP := Lib.hid hP
  clear hm hP
  obtain ⟨i, rfl⟩ := Int.eq_ofNat_of_zero_le hx.1
  obtain ⟨j, rfl⟩ := Int.eq_ofNat_of_zero_le hy.1
  obtain ⟨k, rfl⟩ := Int.eq_ofNat_of_zero_le hz.1
  have HB : Hid (Below w.heap.size w (w.alloc (.cells #[.int .u8 i, .int .u8 j, .int .u8 k] 32))) := (Below.refl _ _).alloc (Nat.le_refl _) _
  cases hv : validB ps
  · have HV := Lib.hid hv
    clear hv
    go_enter Try.func4, Try.ntmps4
    go_wp2_with fail
    refine (awake_any _).mono ?_
    rintro e w1 ⟨rfl, hb1⟩
    have f0 := kept_box hb1 0 _ rfl
    have f1 := kept_box hb1 1 _ rfl
    have f2 := kept_box hb1 2 _ rfl
    go_wp2_with fail
    go_quiet (fail)
    have hb2 := below_drewN hb1 nq
    go_wp2_with fail
    refine (rvalid_at _ _ ps _ HV.out HM.out (HP.out.next (below_next HB.out hb2))).mono ?_
    rintro e w3 ⟨rfl, hb3⟩
    go_wp2
    go_ret
    exact ⟨rfl, below_next HB.out (below_next hb2 hb3)⟩
  · have HV := Lib.hid hv
    clear hv
    have h64 := (validB_iff.1 HV.out).1.2
    by_cases hok : i < j ∧ j < k ∧ k ≤ ps.length
    · obtain ⟨o1, o2, o3⟩ := hok
      obtain ⟨b, off, rfl, hB, hc⟩ := HP.out (by omega)
      have cj := (hc j (by omega)).2.1
      have HC : Hid (∀ W, Below w.heap.size w W → W.cell? ⟨b, off + j * 3 + 1, none⟩ = some (.int .i64 (spAt ps j))) := fun W h => (h.cell (p := ⟨b, off + j * 3 + 1, none⟩) hB).trans cj
      have L1 := Lib.hid (len_ok HV.out o1 (by omega))
      have L2 := Lib.hid (len_ok HV.out o2 o3)
      have L3 := Lib.hid (len_ok HV.out (Nat.lt_trans o1 o2) o3)
      have S := lenL_split ps o1 o2
      have b1 := lenL_bound HV.out (i := i) (j := j) (by omega)
      have b2 := lenL_bound HV.out (i := j) (j := k) (by omega)
      have b3 := allOk_at (validB_iff.1 HV.out).2 (k := j) (by omega)
      have ht : (lenL ps i k == lenL ps i j + spAt ps j + lenL ps j k) = true := by rw [beq_iff_eq]; exact S
      clear hc cj S
      go_enter Try.func4, Try.ntmps4
      go_wp2_with fail
      refine (awake_any _).mono ?_
      rintro e w1 ⟨rfl, hb1⟩
      have f0 := kept_box hb1 0 _ rfl
      have f1 := kept_box hb1 1 _ rfl
      have f2 := kept_box hb1 2 _ rfl
      go_wp2_with fail
      go_quiet (fail)
      have hb2 := below_drewN hb1 nq
      clear f0 f1 f2
      go_wp2_with fail
      refine (rvalid_at _ _ ps _ HV.out HM.out (HP.out.next (below_next HB.out hb2))).mono ?_
      rintro e w3 ⟨rfl, hb3'⟩
      have hb3 := below_next hb2 hb3'
      go_wp2_with fail
      refine (Length_at _ _ ps _ _ _ L1.out.1 L1.out.2 HM.out (HP.out.next (below_next HB.out hb3))).mono ?_
      rintro e w4 ⟨rfl, hb4'⟩
      have hb4 := below_next hb3 hb4'
      go_wp2_with fail
      refine (Length_at _ _ ps _ _ _ L2.out.1 L2.out.2 HM.out (HP.out.next (below_next HB.out hb4))).mono ?_
      rintro e w5 ⟨rfl, hb5'⟩
      have hb5 := below_next hb4 hb5'
      go_wp2_with fail
      refine (Length_at _ _ ps _ _ _ L3.out.1 L3.out.2 HM.out (HP.out.next (below_next HB.out hb5))).mono ?_
      rintro e w6 ⟨rfl, hb6'⟩
      have hb6 := below_next hb5 hb6'
      have cj := HC.out _ (below_next HB.out hb6)
      go_wp2
      go_ret
      exact ⟨rfl, below_next HB.out hb6⟩
    · have hcase : j ≤ i ∨ (i < j ∧ k ≤ j) ∨ (i < j ∧ j < k ∧ ps.length < k) := by omega
      clear hok
      rcases hcase with o | ⟨o, o2⟩ | ⟨o, o2, o3⟩
      all_goals
        go_enter Try.func4, Try.ntmps4
        go_wp2_with fail
        refine (awake_any _).mono ?_
        rintro e w1 ⟨rfl, hb1⟩
        have f0 := kept_box hb1 0 _ rfl
        have f1 := kept_box hb1 1 _ rfl
        have f2 := kept_box hb1 2 _ rfl
        go_wp2_with fail
        go_quiet (fail)
        have hb2 := below_drewN hb1 nq
        clear f0 f1 f2
        go_wp2_with fail
        refine (rvalid_at _ _ ps _ HV.out HM.out (HP.out.next (below_next HB.out hb2))).mono ?_
        rintro e w3 ⟨rfl, hb3⟩
        go_wp2
        go_ret
        exact ⟨rfl, below_next HB.out (below_next hb2 hb3)⟩
end Go.Proofs.Ytdmcddhepgodhaa
