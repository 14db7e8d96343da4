/- The reference's Natural, Stretch, Shrink and Order. -/
import Derived.Test.YtjckbdbjcgjcaaaGluMeas
namespace Go.Proofs.Ytjckbdbjcgjcaaa.Gu
open Go.RowKit
set_option maxHeartbeats 1000000 in
theorem rnat_any {z : Int} (A : Option Addr) (c : Nat) (l : List Gl) (w : World) (hz : natZ l = z) (hm : l.length ≤ lenMax) (hP : Gls w w.heap.size A l) :
    Calls Try.prog 42 #[.slice A l.length c] w fun e w' => e = .returned (.int .i64 z) ∧ Below w.heap.size w w' := by
  have HM := Lib.hid hm
  have HP := Lib.hid hP
  have HZ := Lib.hid hz
  clear hm hP hz
  by_cases hv : VG l
  · have HV := Lib.hid hv
    have h200 := hv.1
    clear hv
    go_enter Try.func42, Try.ntmps42
    go_wp2
    go_loopw [3, 4] (fun s q wr => ∃ k : Nat, k ≤ l.length ∧ q = .int .i64 (k : Int) ∧ s = .int .i64 (sumN (wdAt l) k) ∧ Below w.heap.size w wr) (fun _ q _ => l.length - (intOf q).toNat)
    case atStart => exact ⟨0, Nat.zero_le _, rfl, rfl, Below.refl _ _⟩
    case round =>
      obtain ⟨k, hk, rfl, rfl, hbw⟩ := hrel
      have HBW := Lib.hid hbw
      clear hbw
      by_cases hlt : k < l.length
      · have h1 := nat_bound HV.out (k := k) (by omega)
        have h2 := HV.out.2 k hlt
        unfold okG at h2
        have hsn : Hid (sumN (wdAt l) (k + 1) = sumN (wdAt l) k + wdAt l k) := rfl
        obtain ⟨b, off, rfl, hB, hc⟩ := HP.out (by omega)
        obtain ⟨c0, c1, c2, c3⟩ := hc k hlt
        obtain ⟨s, hs⟩ : ∃ s, sumN (wdAt l) k = s := ⟨_, rfl⟩
        rw [hs] at h1 hsn ⊢
        have hs1 := h1.1
        have hs2 := h1.2
        clear hs hc h1
        obtain ⟨a, ha⟩ : ∃ a, wdAt l k = a := ⟨_, rfl⟩
        rw [ha] at c0 hsn h2
        obtain ⟨g1, g2, g3, g4, g5, g6, g7, g8⟩ := h2
        have s1 : IntKind.i64.wrap (s + a) = s + a := IntWalk.i64_in _ (by omega)
        clear ha
        go_wp2_with fail
        refine (rvalidg_any (r := true) _ _ l _ HM.out (HP.out.next HBW.out) (yes_iff HV.out)).mono ?_
        rintro e w1 ⟨rfl, hb1⟩
        have d0 := ((below_next HBW.out hb1).cell (p := ⟨b, off + k * 4, none⟩) hB).trans c0
        go_wp2
        go_roundw
        case rel => exact ⟨k + 1, by omega, by go_num, by rw [hsn.out], below_next HBW.out hb1⟩
        case measure => simp [intOf]; omega
      · obtain rfl : k = l.length := by omega
        go_wp2_with fail
        refine (rvalidg_any (r := true) _ _ l _ HM.out (HP.out.next HBW.out) (yes_iff HV.out)).mono ?_
        rintro e w1 ⟨rfl, hb1⟩
        go_wp2
        go_ret
        refine ⟨?_, below_next HBW.out hb1⟩
        rw [← HZ.out]
        unfold natZ
        rw [if_pos HV.out]
        rfl
  · have HV := Lib.hid hv
    clear hv
    go_enter Try.func42, Try.ntmps42
    go_wp2
    go_loopw [3, 4] (fun s q wr => q = .int .i64 0 ∧ s = .int .i64 0 ∧ wr = w) (fun _ _ _ => 0)
    case atStart => exact ⟨rfl, rfl, rfl⟩
    case round =>
      obtain ⟨rfl, rfl, rfl⟩ := hrel
      go_wp2_with fail
      refine (rvalidg_any (r := false) _ _ l _ HM.out HP.out (no_iff HV.out)).mono ?_
      rintro e w1 ⟨rfl, hb1⟩
      go_wp2
      go_ret
      refine ⟨?_, hb1⟩
      rw [← HZ.out]
      unfold natZ
      rw [if_neg HV.out]
      rfl
set_option maxHeartbeats 1000000 in
theorem rshr_any {z : Int} (A : Option Addr) (c : Nat) (l : List Gl) (w : World) (hz : shrZ l = z) (hm : l.length ≤ lenMax) (hP : Gls w w.heap.size A l) :
    Calls Try.prog 63 #[.slice A l.length c] w fun e w' => e = .returned (.int .i64 z) ∧ Below w.heap.size w w' := by
  have HM := Lib.hid hm
  have HP := Lib.hid hP
  have HZ := Lib.hid hz
  clear hm hP hz
  by_cases hv : VG l
  · have HV := Lib.hid hv
    have h200 := hv.1
    clear hv
    go_enter Try.func63, Try.ntmps63
    go_wp2
    go_loopw [3, 4] (fun s q wr => ∃ k : Nat, k ≤ l.length ∧ q = .int .i64 (k : Int) ∧ s = .int .i64 (sumN (shAt l) k) ∧ Below w.heap.size w wr) (fun _ q _ => l.length - (intOf q).toNat)
    case atStart => exact ⟨0, Nat.zero_le _, rfl, rfl, Below.refl _ _⟩
    case round =>
      obtain ⟨k, hk, rfl, rfl, hbw⟩ := hrel
      have HBW := Lib.hid hbw
      clear hbw
      by_cases hlt : k < l.length
      · have h1 := shr_bound HV.out (k := k) (by omega)
        have h2 := HV.out.2 k hlt
        unfold okG at h2
        have hsn : Hid (sumN (shAt l) (k + 1) = sumN (shAt l) k + shAt l k) := rfl
        obtain ⟨b, off, rfl, hB, hc⟩ := HP.out (by omega)
        obtain ⟨c0, c1, c2, c3⟩ := hc k hlt
        obtain ⟨s, hs⟩ : ∃ s, sumN (shAt l) k = s := ⟨_, rfl⟩
        rw [hs] at h1 hsn ⊢
        have hs1 := h1.1
        have hs2 := h1.2
        clear hs hc h1
        obtain ⟨a, ha⟩ : ∃ a, shAt l k = a := ⟨_, rfl⟩
        rw [ha] at c2 hsn h2
        obtain ⟨g1, g2, g3, g4, g5, g6, g7, g8⟩ := h2
        have s1 : IntKind.i64.wrap (s + a) = s + a := IntWalk.i64_in _ (by omega)
        clear ha
        go_wp2_with fail
        refine (rvalidg_any (r := true) _ _ l _ HM.out (HP.out.next HBW.out) (yes_iff HV.out)).mono ?_
        rintro e w1 ⟨rfl, hb1⟩
        have d0 := ((below_next HBW.out hb1).cell (p := ⟨b, off + k * 4 + 2, none⟩) hB).trans c2
        go_wp2
        go_roundw
        case rel => exact ⟨k + 1, by omega, by go_num, by rw [hsn.out], below_next HBW.out hb1⟩
        case measure => simp [intOf]; omega
      · obtain rfl : k = l.length := by omega
        go_wp2_with fail
        refine (rvalidg_any (r := true) _ _ l _ HM.out (HP.out.next HBW.out) (yes_iff HV.out)).mono ?_
        rintro e w1 ⟨rfl, hb1⟩
        go_wp2
        go_ret
        refine ⟨?_, below_next HBW.out hb1⟩
        rw [← HZ.out]
        unfold shrZ
        rw [if_pos HV.out]
        rfl
  · have HV := Lib.hid hv
    clear hv
    go_enter Try.func63, Try.ntmps63
    go_wp2
    go_loopw [3, 4] (fun s q wr => q = .int .i64 0 ∧ s = .int .i64 0 ∧ wr = w) (fun _ _ _ => 0)
    case atStart => exact ⟨rfl, rfl, rfl⟩
    case round =>
      obtain ⟨rfl, rfl, rfl⟩ := hrel
      go_wp2_with fail
      refine (rvalidg_any (r := false) _ _ l _ HM.out HP.out (no_iff HV.out)).mono ?_
      rintro e w1 ⟨rfl, hb1⟩
      go_wp2
      go_ret
      refine ⟨?_, hb1⟩
      rw [← HZ.out]
      unfold shrZ
      rw [if_neg HV.out]
      rfl
set_option maxHeartbeats 1000000 in
theorem rstr_any {z : Int} (A : Option Addr) (c : Nat) (l : List Gl) (o : Int) (w : World) (hz : strZ l o = z) (hm : l.length ≤ lenMax) (hP : Gls w w.heap.size A l) :
    Calls Try.prog 76 #[.slice A l.length c, .int .i64 o] w fun e w' => e = .returned (.int .i64 z) ∧ Below w.heap.size w w' := by
  have HM := Lib.hid hm
  have HP := Lib.hid hP
  have HZ := Lib.hid hz
  clear hm hP hz
  by_cases hv : VG l
  · have HV := Lib.hid hv
    have h200 := hv.1
    clear hv
    go_enter Try.func76, Try.ntmps76
    go_wp2
    go_loopw [5, 6] (fun s q wr => ∃ k : Nat, k ≤ l.length ∧ q = .int .i64 (k : Int) ∧ s = .int .i64 (sumN (stO l o) k) ∧ Below w.heap.size w wr) (fun _ q _ => l.length - (intOf q).toNat)
    case atStart => exact ⟨0, Nat.zero_le _, rfl, rfl, Below.refl _ _⟩
    case round =>
      obtain ⟨k, hk, rfl, rfl, hbw⟩ := hrel
      have HBW := Lib.hid hbw
      clear hbw
      by_cases hlt : k < l.length
      · have h1 := str_bound HV.out o (k := k) (by omega)
        have h2 := HV.out.2 k hlt
        unfold okG at h2
        have hsn : Hid (sumN (stO l o) (k + 1) = sumN (stO l o) k + stO l o k) := rfl
        obtain ⟨b, off, rfl, hB, hc⟩ := HP.out (by omega)
        obtain ⟨c0, c1, c2, c3⟩ := hc k hlt
        obtain ⟨s, hs⟩ : ∃ s, sumN (stO l o) k = s := ⟨_, rfl⟩
        rw [hs] at h1 hsn ⊢
        have hs1 := h1.1
        have hs2 := h1.2
        clear hs hc h1
        obtain ⟨d, hd⟩ : ∃ d, odAt l k = d := ⟨_, rfl⟩
        obtain ⟨a, ha⟩ : ∃ a, stAt l k = a := ⟨_, rfl⟩
        have hso : stO l o k = if d = o then a else 0 := by unfold stO; rw [hd, ha]
        rw [hso] at hsn
        rw [ha] at c1 h2
        rw [hd] at c3 h2
        obtain ⟨g1, g2, g3, g4, g5, g6, g7, g8⟩ := h2
        have s1 : IntKind.i64.wrap (s + a) = s + a := IntWalk.i64_in _ (by omega)
        clear ha hd hso
        by_cases hdo : d = o
        · have HSN := Lib.hid hsn.out
          rw [if_pos hdo] at HSN
          subst hdo
          clear hsn
          go_wp2_with fail
          refine (rvalidg_any (r := true) _ _ l _ HM.out (HP.out.next HBW.out) (yes_iff HV.out)).mono ?_
          rintro e w1 ⟨rfl, hb1⟩
          have d1 := ((below_next HBW.out hb1).cell (p := ⟨b, off + k * 4 + 1, none⟩) hB).trans c1
          have d3 := ((below_next HBW.out hb1).cell (p := ⟨b, off + k * 4 + 3, none⟩) hB).trans c3
          go_wp2
          go_roundw
          case rel => exact ⟨k + 1, by omega, by go_num, by rw [HSN.out], below_next HBW.out hb1⟩
          case measure => simp [intOf]; omega
        · have HSN := Lib.hid hsn.out
          rw [if_neg hdo, Int.add_zero] at HSN
          clear hsn
          have b1 : (d == o) = false := beq_eq_false_iff_ne.2 hdo
          go_wp2_with fail
          refine (rvalidg_any (r := true) _ _ l _ HM.out (HP.out.next HBW.out) (yes_iff HV.out)).mono ?_
          rintro e w1 ⟨rfl, hb1⟩
          have d3 := ((below_next HBW.out hb1).cell (p := ⟨b, off + k * 4 + 3, none⟩) hB).trans c3
          go_wp2
          go_roundw
          case rel => exact ⟨k + 1, by omega, by go_num, by rw [HSN.out], below_next HBW.out hb1⟩
          case measure => simp [intOf]; omega
      · obtain rfl : k = l.length := by omega
        go_wp2_with fail
        refine (rvalidg_any (r := true) _ _ l _ HM.out (HP.out.next HBW.out) (yes_iff HV.out)).mono ?_
        rintro e w1 ⟨rfl, hb1⟩
        go_wp2
        go_ret
        refine ⟨?_, below_next HBW.out hb1⟩
        rw [← HZ.out]
        unfold strZ
        rw [if_pos HV.out]
        rfl
  · have HV := Lib.hid hv
    clear hv
    go_enter Try.func76, Try.ntmps76
    go_wp2
    go_loopw [5, 6] (fun s q wr => q = .int .i64 0 ∧ s = .int .i64 0 ∧ wr = w) (fun _ _ _ => 0)
    case atStart => exact ⟨rfl, rfl, rfl⟩
    case round =>
      obtain ⟨rfl, rfl, rfl⟩ := hrel
      go_wp2_with fail
      refine (rvalidg_any (r := false) _ _ l _ HM.out HP.out (no_iff HV.out)).mono ?_
      rintro e w1 ⟨rfl, hb1⟩
      go_wp2
      go_ret
      refine ⟨?_, hb1⟩
      rw [← HZ.out]
      unfold strZ
      rw [if_neg HV.out]
      rfl
set_option maxHeartbeats 1000000 in
theorem rord_any {z : Int} (A : Option Addr) (c : Nat) (l : List Gl) (w : World) (hz : ordZ l = z) (hm : l.length ≤ lenMax) (hP : Gls w w.heap.size A l) :
    Calls Try.prog 65 #[.slice A l.length c] w fun e w' => e = .returned (.int .i64 z) ∧ Below w.heap.size w w' := by
  have HM := Lib.hid hm
  have HP := Lib.hid hP
  have HZ := Lib.hid hz
  clear hm hP hz
  go_enter Try.func65, Try.ntmps65
  go_wp2
  go_loopw [3] (fun q wr => ∃ n : Nat, n ≤ 4 ∧ q = .int .i64 ((n : Int) - 1) ∧ ordN l n = z ∧ Below w.heap.size w wr) (fun q _ => (intOf q + 1).toNat)
  case atStart => exact ⟨4, by omega, rfl, HZ.out, Below.refl _ _⟩
  case round =>
    obtain ⟨n, hn, rfl, ho, hbw⟩ := hrel
    have HO := Lib.hid ho
    have HBW := Lib.hid hbw
    clear ho hbw
    by_cases h0 : n = 0
    · subst h0
      have e : z = -1 := HO.out.symm
      subst e
      go_wp2
      go_ret
      exact ⟨rfl, HBW.out⟩
    · obtain ⟨m, rfl⟩ : ∃ m, n = m + 1 := ⟨n - 1, by omega⟩
      have e : (((m + 1 : Nat) : Int) - 1) = (m : Int) := by omega
      rw [e]
      have e2 : ordN l (m + 1) = if strZ l m = 0 then ordN l m else m := rfl
      have hp := strZ_pos l (m : Int)
      obtain ⟨s, hs⟩ : ∃ s, strZ l (m : Int) = s := ⟨_, rfl⟩
      have hoz := HO.out
      rw [e2, hs] at hoz
      rw [hs] at hp
      have HSS := Lib.hid hs
      clear hs e e2 HO
      by_cases hs0 : s = 0
      · rw [if_pos hs0] at hoz
        have HOZ := Lib.hid hoz
        subst hs0
        clear hoz
        go_wp2_with fail
        refine (rstr_any _ _ l _ _ HSS.out HM.out (HP.out.next HBW.out)).mono ?_
        rintro e w1 ⟨rfl, hb1⟩
        go_wp2
        go_roundw
        case rel => exact ⟨m, by omega, by go_num, HOZ.out, below_next HBW.out hb1⟩
        case measure => simp [intOf]
      · rw [if_neg hs0] at hoz
        subst hoz
        have b1 : 0 < s := by omega
        go_wp2_with fail
        refine (rstr_any _ _ l _ _ HSS.out HM.out (HP.out.next HBW.out)).mono ?_
        rintro e w1 ⟨rfl, hb1⟩
        go_wp2
        go_ret
        exact ⟨rfl, below_next HBW.out hb1⟩
end Go.Proofs.Ytjckbdbjcgjcaaa.Gu
