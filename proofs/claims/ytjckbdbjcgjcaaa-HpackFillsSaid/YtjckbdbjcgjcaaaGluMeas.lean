/- Natural, Stretch, Shrink, the greatest order: the program's and the reference's. -/
import Derived.Test.YtjckbdbjcgjcaaaGluTotal
namespace Go.Proofs.Ytjckbdbjcgjcaaa.Gu
open Go.RowKit
instance (l : List Gl) : Decidable (VG l) := by unfold VG; infer_instance
def natZ (l : List Gl) : Int := if VG l then natV l else 0
def strZ (l : List Gl) (o : Int) : Int := if VG l then strV l o else 0
def shrZ (l : List Gl) : Int := if VG l then shrV l else 0
/-- The greatest order below n whose stretch is not 0, or -1. -/
def ordN (l : List Gl) : Nat → Int
  | 0 => -1
  | n + 1 => if strZ l n = 0 then ordN l n else n
def ordZ (l : List Gl) : Int := ordN l 4
theorem strZ_pos (l : List Gl) (o : Int) : 0 ≤ strZ l o := by
  unfold strZ
  split
  · rename_i h; exact (str_bound h o (Nat.le_refl _)).1
  · exact Int.le_refl _
theorem strs_call (A : Option Addr) (len c : Nat) (o : Int) (w : World) :
    Calls Try.prog 56 #[.slice A len c, .int .i64 o] w fun e w' =>
      e = .returned (.func (.func 72) #[] #[.pointer (some ⟨w.heap.size, 0, none⟩), .pointer (some ⟨w.heap.size + 1, 0, none⟩)]) ∧
      w' = (w.alloc (.cells #[.slice A len c] 23)).alloc (.cells #[.int .i64 o] 3) :=
  (callsIn_wide (n := 4)).1 (strs_in Fence.wide 4 rfl A len c o w)
theorem shrs_call (A : Option Addr) (len c : Nat) (w : World) :
    Calls Try.prog 57 #[.slice A len c] w fun e w' =>
      e = .returned (.func (.func 73) #[] #[.pointer (some ⟨w.heap.size, 0, none⟩)]) ∧ w' = w.alloc (.cells #[.slice A len c] 23) :=
  (callsIn_wide (n := 4)).1 (shrs_in Fence.wide 4 rfl A len c w)
theorem two_below (w : World) (a b : Obj) : Below w.heap.size w ((w.alloc a).alloc b) := ((Below.refl _ w).alloc (Nat.le_refl _) _).alloc (by simp) _
theorem one_below (w : World) (a : Obj) : Below w.heap.size w (w.alloc a) := (Below.refl _ w).alloc (Nat.le_refl _) _
theorem yes_iff {p : Prop} (h : p) : true = true ↔ p := ⟨fun _ => h, fun _ => rfl⟩
theorem no_iff {p : Prop} (h : ¬ p) : false = true ↔ p := ⟨fun e => (by cases e), fun e => absurd e h⟩
theorem gstr_any {z : Int} (A : Option Addr) (c : Nat) (l : List Gl) (o : Int) (w : World) (hz : strZ l o = z) (hm : l.length ≤ lenMax) (hP : Gls w w.heap.size A l) :
    Calls Try.prog 55 #[.slice A l.length c, .int .i64 o] w fun e w' => e = .returned (.int .i64 z) ∧ Below w.heap.size w w' := by
  have HM := Lib.hid hm
  have HP := Lib.hid hP
  have HZ := Lib.hid hz
  clear hm hP hz
  by_cases hv : VG l
  · have HV := Lib.hid hv
    clear hv
    go_enter Try.func55, Try.ntmps55
    go_wp2_with fail
    refine (gvalid_any (r := true) _ _ l _ HM.out HP.out (yes_iff HV.out)).mono ?_
    rintro e w1 ⟨rfl, hb1⟩
    have HB1 := Lib.hid hb1
    clear hb1
    go_wp2_with fail
    refine (strs_call _ _ _ _ _).mono ?_
    rintro e w2 ⟨rfl, rfl⟩
    go_wp2_with fail
    refine (total_str w1.heap.size w1.heap.size c A l o _ HV.out (Nat.le_refl _) ((Boxed.new w1 _ _).alloc _) (by have := Boxed.new (w1.alloc (.cells #[.slice A l.length c] 23)) 3 (.int .i64 o); simpa using this) ((HP.out.next HB1.out).below (two_below _ _ _))).mono ?_
    rintro e w3 ⟨rfl, hb3⟩
    go_wp2
    go_ret
    refine ⟨?_, below_next (below_next HB1.out (two_below _ _ _)) hb3⟩
    rw [← HZ.out]
    unfold strZ
    rw [if_pos HV.out]
    rfl
  · have HV := Lib.hid hv
    clear hv
    go_enter Try.func55, Try.ntmps55
    go_wp2_with fail
    refine (gvalid_any (r := false) _ _ l _ HM.out HP.out (no_iff HV.out)).mono ?_
    rintro e w1 ⟨rfl, hb1⟩
    go_wp2
    go_ret
    refine ⟨?_, hb1⟩
    rw [← HZ.out]
    unfold strZ
    rw [if_neg HV.out]
    rfl
theorem gshr_any {z : Int} (A : Option Addr) (c : Nat) (l : List Gl) (w : World) (hz : shrZ l = z) (hm : l.length ≤ lenMax) (hP : Gls w w.heap.size A l) :
    Calls Try.prog 53 #[.slice A l.length c] w fun e w' => e = .returned (.int .i64 z) ∧ Below w.heap.size w w' := by
  have HM := Lib.hid hm
  have HP := Lib.hid hP
  have HZ := Lib.hid hz
  clear hm hP hz
  by_cases hv : VG l
  · have HV := Lib.hid hv
    clear hv
    go_enter Try.func53, Try.ntmps53
    go_wp2_with fail
    refine (gvalid_any (r := true) _ _ l _ HM.out HP.out (yes_iff HV.out)).mono ?_
    rintro e w1 ⟨rfl, hb1⟩
    have HB1 := Lib.hid hb1
    clear hb1
    go_wp2_with fail
    refine (shrs_call _ _ _ _).mono ?_
    rintro e w2 ⟨rfl, rfl⟩
    go_wp2_with fail
    refine (total_shr w1.heap.size w1.heap.size c A l _ HV.out (Nat.le_refl _) (Boxed.new w1 _ _) ((HP.out.next HB1.out).below (one_below _ _))).mono ?_
    rintro e w3 ⟨rfl, hb3⟩
    go_wp2
    go_ret
    refine ⟨?_, below_next (below_next HB1.out (one_below _ _)) hb3⟩
    rw [← HZ.out]
    unfold shrZ
    rw [if_pos HV.out]
    rfl
  · have HV := Lib.hid hv
    clear hv
    go_enter Try.func53, Try.ntmps53
    go_wp2_with fail
    refine (gvalid_any (r := false) _ _ l _ HM.out HP.out (no_iff HV.out)).mono ?_
    rintro e w1 ⟨rfl, hb1⟩
    go_wp2
    go_ret
    refine ⟨?_, hb1⟩
    rw [← HZ.out]
    unfold shrZ
    rw [if_neg HV.out]
    rfl
set_option maxHeartbeats 1000000 in
theorem gnat_any {z : Int} (A : Option Addr) (c : Nat) (l : List Gl) (w : World) (hz : natZ l = z) (hm : l.length ≤ lenMax) (hP : Gls w w.heap.size A l) :
    Calls Try.prog 51 #[.slice A l.length c] w fun e w' => e = .returned (.int .i64 z) ∧ Below w.heap.size w w' := by
  have HM := Lib.hid hm
  have HP := Lib.hid hP
  have HZ := Lib.hid hz
  clear hm hP hz
  by_cases hv : VG l
  · have HV := Lib.hid hv
    have h200 := hv.1
    clear hv
    go_enter Try.func51, Try.ntmps51
    go_wp2_with fail
    refine (gvalid_any (r := true) _ _ l _ HM.out HP.out (yes_iff HV.out)).mono ?_
    rintro e w1 ⟨rfl, hb1⟩
    have HB1 := Lib.hid hb1
    clear hb1
    go_wp2
    go_loopw [3, 11] (fun s q wr => ∃ k : Nat, k ≤ l.length ∧ q = .int .i64 (k : Int) ∧ s = .int .i64 (sumN (wdAt l) k) ∧ Below w1.heap.size w1 wr) (fun _ q _ => l.length - (intOf q).toNat)
    case atStart => exact ⟨0, Nat.zero_le _, rfl, rfl, Below.refl _ _⟩
    case round =>
      obtain ⟨k, hk, rfl, rfl, hbw⟩ := hrel
      have HBW := Lib.hid hbw
      have hws := hbw.size
      clear hbw
      by_cases hlt : k < l.length
      · obtain ⟨b, off, rfl, hB, hc⟩ := HP.out (by omega)
        obtain ⟨c0, c1, c2, c3⟩ := hc k hlt
        have HW := Lib.hid (below_next HB1.out HBW.out)
        replace c0 := (HW.out.cell (p := ⟨b, off + k * 4, none⟩) hB).trans c0
        replace c1 := (HW.out.cell (p := ⟨b, off + k * 4 + 1, none⟩) hB).trans c1
        replace c2 := (HW.out.cell (p := ⟨b, off + k * 4 + 2, none⟩) hB).trans c2
        replace c3 := (HW.out.cell (p := ⟨b, off + k * 4 + 3, none⟩) hB).trans c3
        have h1 := nat_bound HV.out (k := k) (by omega)
        have h2 := HV.out.2 k hlt
        unfold okG at h2
        obtain ⟨h3, h4, _⟩ := h2
        have hsn : Hid (sumN (wdAt l) (k + 1) = sumN (wdAt l) k + wdAt l k) := rfl
        obtain ⟨s, hs⟩ : ∃ s, sumN (wdAt l) k = s := ⟨_, rfl⟩
        obtain ⟨a, ha⟩ : ∃ a, wdAt l k = a := ⟨_, rfl⟩
        rw [hs] at h1 hsn ⊢
        rw [ha] at h3 h4 c0 hsn
        have s1 : IntKind.i64.wrap (s + a) = s + a := IntWalk.i64_in _ (by omega)
        clear hs ha hc h1
        go_wp2
        go_roundw
        case rel => exact ⟨k + 1, by omega, by go_num, by rw [hsn.out], HBW.out.alloc (by omega) _⟩
        case measure => simp [intOf]; omega
      · obtain rfl : k = l.length := by omega
        go_wp2
        go_ret
        refine ⟨?_, below_next HB1.out HBW.out⟩
        rw [← HZ.out]
        unfold natZ
        rw [if_pos HV.out]
        rfl
  · have HV := Lib.hid hv
    clear hv
    go_enter Try.func51, Try.ntmps51
    go_wp2_with fail
    refine (gvalid_any (r := false) _ _ l _ HM.out HP.out (no_iff HV.out)).mono ?_
    rintro e w1 ⟨rfl, hb1⟩
    go_wp2
    go_ret
    refine ⟨?_, hb1⟩
    rw [← HZ.out]
    unfold natZ
    rw [if_neg HV.out]
    rfl
set_option maxHeartbeats 1000000 in
theorem ggreat_any {z : Int} (A : Option Addr) (c : Nat) (l : List Gl) (w : World) (hz : ordZ l = z) (hm : l.length ≤ lenMax) (hP : Gls w w.heap.size A l) :
    Calls Try.prog 52 #[.slice A l.length c] w fun e w' => e = .returned (.int .i64 z) ∧ Below w.heap.size w w' := by
  have HM := Lib.hid hm
  have HP := Lib.hid hP
  have HZ := Lib.hid hz
  clear hm hP hz
  go_enter Try.func52, Try.ntmps52
  go_wp2
  go_loopw [3] (fun q wr => ∃ n : Nat, n ≤ 4 ∧ q = .int .i64 ((n : Int) - 1) ∧ ordN l n = z ∧ Below w.heap.size w wr) (fun q _ => (intOf q + 1).toNat)
  case atStart => exact ⟨4, by omega, rfl, HZ.out, Below.refl _ _⟩
  case round =>
    obtain ⟨n, hn, rfl, ho, hbw⟩ := hrel
    have HO := Lib.hid ho
    have HBW := Lib.hid hbw
    clear ho hbw
    by_cases h0 : n = 0
    · subst h0
      have e : z = -1 := HO.out.symm
      subst e
      go_wp2
      go_ret
      exact ⟨rfl, HBW.out⟩
    · obtain ⟨m, rfl⟩ : ∃ m, n = m + 1 := ⟨n - 1, by omega⟩
      have e : (((m + 1 : Nat) : Int) - 1) = (m : Int) := by omega
      rw [e]
      have e2 : ordN l (m + 1) = if strZ l m = 0 then ordN l m else m := rfl
      obtain ⟨s, hs⟩ : ∃ s, strZ l (m : Int) = s := ⟨_, rfl⟩
      have hoz := HO.out
      rw [e2, hs] at hoz
      have HSS := Lib.hid hs
      clear hs e e2 HO
      by_cases hs0 : s = 0
      · rw [if_pos hs0] at hoz
        have HOZ := Lib.hid hoz
        subst hs0
        clear hoz
        go_wp2_with fail
        refine (gstr_any _ _ l _ _ HSS.out HM.out (HP.out.next HBW.out)).mono ?_
        rintro e w1 ⟨rfl, hb1⟩
        go_wp2
        go_roundw
        case rel => exact ⟨m, by omega, by go_num, HOZ.out, below_next HBW.out hb1⟩
        case measure => simp [intOf]
      · rw [if_neg hs0] at hoz
        subst hoz
        have b1 : (s == 0) = false := beq_eq_false_iff_ne.2 hs0
        go_wp2_with fail
        refine (gstr_any _ _ l _ _ HSS.out HM.out (HP.out.next HBW.out)).mono ?_
        rintro e w1 ⟨rfl, hb1⟩
        go_wp2
        go_ret
        exact ⟨rfl, below_next HBW.out hb1⟩
end Go.Proofs.Ytjckbdbjcgjcaaa.Gu
