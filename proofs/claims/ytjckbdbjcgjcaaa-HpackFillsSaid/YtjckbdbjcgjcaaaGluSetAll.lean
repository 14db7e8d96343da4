/- The program's Set, whole. -/
import Derived.Test.YtjckbdbjcgjcaaaGluSetS
import Derived.Test.YtjckbdbjcgjcaaaGluSetH
import Derived.Test.YtjckbdbjcgjcaaaGluSetN
namespace Go.Proofs.Ytjckbdbjcgjcaaa.Gu
open Go.RowKit
theorem shr_ge {l : List Gl} (hv : VG l) : 0 ≤ shrV l := (shr_bound hv (Nat.le_refl _)).1
theorem rest_pos {l : List Gl} {e : Int} (h : 0 < e) (ho : 0 ≤ ordZ l) : restV l e = 0 := by unfold restV; rw [if_neg (by omega), if_neg (by omega)]
theorem rest_none {l : List Gl} {e : Int} (h : 0 < e) (ho : ordZ l < 0) : restV l e = e := by unfold restV; rw [if_neg (by omega), if_pos ho]
theorem rest_neg {l : List Gl} {e : Int} (h : e < 0) : restV l e = gS l e + e := by unfold restV; rw [if_pos h]
theorem rest_zero {l : List Gl} : restV l 0 = 0 := by unfold restV; rw [if_neg (by omega)]; split <;> rfl
theorem gS_none {l : List Gl} {e : Int} (h : e < 0) (hz : shrV l = 0) : gS l e = 0 := by unfold gS; rw [if_pos (by omega), hz]
set_option maxHeartbeats 1000000 in
theorem gset_err (A : Option Addr) (c : Nat) (l : List Gl) (wd : Int) (w : World) (hm : l.length ≤ lenMax) (hP : Gls w w.heap.size A l) (hok : ¬ (VG l ∧ rngW wd)) :
    Calls Try.prog 31 #[.slice A l.length c, .int .i64 wd] w (SetAns l wd w) := by
  have HM := Lib.hid hm
  have HP := Lib.hid hP
  obtain ⟨hL, hR⟩ := setAns_no hok
  unfold SetAns
  rw [hL, hR]
  have HN : ∀ W : World, Ints W W.heap.size none [] := fun W h => absurd h (Nat.lt_irrefl _)
  clear hm hP hL hR
  rcases err_cases l wd with ⟨hv, hr, e⟩ | ⟨hv, hr, e⟩ | ⟨hv, e⟩
  · exact absurd ⟨hv, hr⟩ hok
  · have HV := Lib.hid hv
    rw [e]
    have hr' := not_rng hr
    clear hv e hr hok
    rcases hr' with h1 | ⟨h1, h2⟩
    all_goals
      go_enter Try.func31, Try.ntmps31
      go_wp2_with fail
      refine (gvalid_any (r := true) _ _ l _ HM.out HP.out (yes_iff HV.out)).mono ?_
      rintro e w1 ⟨rfl, hb1⟩
      go_wp2
      go_ret3
      exact ⟨⟨none, 0, rfl, HN _⟩, hb1⟩
  · have HV := Lib.hid hv
    rw [e]
    clear hv e hok
    go_enter Try.func31, Try.ntmps31
    go_wp2_with fail
    refine (gvalid_any (r := false) _ _ l _ HM.out HP.out (no_iff HV.out)).mono ?_
    rintro e w1 ⟨rfl, hb1⟩
    go_wp2
    go_ret3
    exact ⟨⟨none, 0, rfl, HN _⟩, hb1⟩
theorem gset_any (A : Option Addr) (c : Nat) (l : List Gl) (wd : Int) (w : World) (hm : l.length ≤ lenMax) (hP : Gls w w.heap.size A l) :
    Calls Try.prog 31 #[.slice A l.length c, .int .i64 wd] w (SetAns l wd w) := by
  by_cases hok : VG l ∧ rngW wd
  · obtain ⟨hL, hR, hE⟩ := setAns_ok hok
    obtain ⟨hv, hr⟩ := hok
    unfold SetAns
    rw [hL, hR, hE, mapN_len]
    have hz0 := shr_ge hv
    by_cases h1 : 0 < wd - natV l
    · by_cases ho : 0 ≤ ordZ l
      · rw [rest_pos h1 ho]
        exact gset_str A c l wd w hv hr rfl h1 rfl ho rfl (str_pos hv (by omega)) hP
      · rw [rest_none h1 (by omega)]
        exact gset_n2 A c l wd w hv hr rfl rfl rfl h1 (by omega) hP
    · by_cases h2 : wd - natV l < 0
      · rw [rest_neg h2]
        by_cases hz : 0 < shrV l
        · rw [Int.add_comm]
          exact gset_shr A c l wd w hv hr rfl h2 rfl rfl rfl hz rfl rfl hP
        · rw [gS_none h2 (by omega), Int.zero_add]
          exact gset_n3 A c l wd w hv hr rfl rfl rfl h2 (by omega) hP
      · have e0 : wd - natV l = 0 := by omega
        rw [e0, rest_zero]
        exact gset_n1 A c l wd w hv hr e0 rfl rfl rfl hP
  · exact gset_err A c l wd w hm hP hok
end Go.Proofs.Ytjckbdbjcgjcaaa.Gu
