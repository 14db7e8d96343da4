/- Plain laws on shares: limits, places, equal parts, a shifted width. -/
import Derived.Test.YtnhplbhjbpdcaaaGluPlain
namespace Go.Proofs.Ytnhplbhjbpdcaaa
/-- A share against the exact one. -/
theorem share_near (f : Nat → Int) {T g : Int} (hT : 0 < T) (k : Nat) : g * f k - shareN f T g k * T < T ∧ -T < g * f k - shareN f T g k * T := by
  unfold shareN cumN
  have e : g * sumN f (k + 1) = g * sumN f k + g * f k := by rw [← Int.mul_add]; rfl
  rw [e]
  generalize g * sumN f k = a
  generalize g * f k = b
  have h1 := Int.mul_ediv_add_emod a T
  have h2 := Int.mul_ediv_add_emod (a + b) T
  have h3 := Int.emod_nonneg a (show T ≠ 0 by omega)
  have h4 := Int.emod_lt_of_pos a hT
  have h5 := Int.emod_nonneg (a + b) (show T ≠ 0 by omega)
  have h6 := Int.emod_lt_of_pos (a + b) hT
  have e2 : ((a + b) / T - a / T) * T = T * ((a + b) / T) - T * (a / T) := by rw [Int.mul_comm, Int.mul_sub]
  rw [e2]
  omega
theorem share_pos {f : Nat → Int} {T g : Int} (hT : 0 < T) (hg : 0 ≤ g) {k : Nat} (hk : 0 ≤ f k) : 0 ≤ shareN f T g k := by
  unfold shareN cumN
  have e : g * sumN f (k + 1) = g * sumN f k + g * f k := by rw [← Int.mul_add]; rfl
  rw [e]
  have h1 := Int.mul_nonneg hg hk
  have h2 : g * sumN f k / T ≤ (g * sumN f k + g * f k) / T := Int.ediv_le_ediv hT (by omega)
  omega
theorem share_top {f : Nat → Int} {T g : Int} (hT : 0 < T) (hg : g ≤ T) {k : Nat} (hk : 0 ≤ f k) : shareN f T g k ≤ f k := by
  unfold shareN cumN
  have e : g * sumN f (k + 1) = g * sumN f k + g * f k := by rw [← Int.mul_add]; rfl
  rw [e]
  have h1 : g * f k ≤ T * f k := Int.mul_le_mul_of_nonneg_right hg hk
  have h2 : (g * sumN f k + g * f k) / T ≤ (g * sumN f k + T * f k) / T := Int.ediv_le_ediv hT (by omega)
  rw [Int.add_mul_ediv_left _ _ (by omega)] at h2
  omega
theorem share_none (f : Nat → Int) (T : Int) (k : Nat) : shareN f T 0 k = 0 := by simp [shareN, cumN]
/-- Equal parts have shares that differ by at most 1. -/
theorem share_equal {f : Nat → Int} {T g : Int} (hT : 0 < T) (k : Nat) : g * f k / T ≤ shareN f T g k ∧ shareN f T g k ≤ g * f k / T + 1 := by
  unfold shareN cumN
  have e : g * sumN f (k + 1) = g * sumN f k + g * f k := by rw [← Int.mul_add]; rfl
  rw [e]
  generalize g * sumN f k = a
  generalize g * f k = b
  have h1 := Int.mul_ediv_add_emod a T
  have h2 := Int.mul_ediv_add_emod b T
  have h3 := Int.emod_nonneg a (show T ≠ 0 by omega)
  have h4 := Int.emod_lt_of_pos a hT
  have h5 := Int.emod_nonneg b (show T ≠ 0 by omega)
  have h6 := Int.emod_lt_of_pos b hT
  have e1 : a + b = (a % T + b % T) + T * (a / T + b / T) := by rw [Int.mul_add]; omega
  rw [e1, Int.add_mul_ediv_left _ _ (by omega)]
  have h7 : 0 ≤ (a % T + b % T) / T := Int.ediv_nonneg (by omega) (by omega)
  have h8 : (a % T + b % T) / T ≤ 1 := by
    have := Int.ediv_lt_of_lt_mul hT (show a % T + b % T < 2 * T by omega)
    omega
  omega
theorem cum_mono {f : Nat → Int} {T g h : Int} (hT : 0 < T) (hg : g ≤ h) {k : Nat} (hk : 0 ≤ sumN f k) : cumN f T g k ≤ cumN f T h k := by
  unfold cumN
  exact Int.ediv_le_ediv hT (Int.mul_le_mul_of_nonneg_right hg hk)
theorem cum_pos {f : Nat → Int} {T g : Int} (hT : 0 < T) (hg : 0 ≤ g) {k : Nat} (hk : 0 ≤ sumN f k) : 0 ≤ cumN f T g k := by
  unfold cumN
  exact Int.ediv_nonneg (Int.mul_nonneg hg hk) (by omega)
/-- Where element k begins. -/
def plcV (l : List Gl) (e : Int) (k : Nat) : Int :=
  if e < 0 then (if gS l e = 0 then sumN (wdAt l) k else sumN (wdAt l) k - cumN (shAt l) (shrV l) (gS l e) k)
  else (if ordZ l < 0 then sumN (wdAt l) k else sumN (wdAt l) k + cumN (stO l (ordZ l)) (strV l (ordZ l)) e k)
theorem plc_sum (l : List Gl) (e : Int) (k : Nat) : sumN (setV l e) k = plcV l e k := by
  unfold plcV
  by_cases he : e < 0
  · rw [if_pos he]
    by_cases hg : gS l e = 0
    · rw [if_pos hg]; exact sumN_congr _ (fun j _ => by unfold setV; rw [if_pos he, if_pos hg])
    · rw [if_neg hg]
      have h2 : sumN (setV l e) k = sumN (fun j => wdAt l j - shareN (shAt l) (shrV l) (gS l e) j) k := sumN_congr _ (fun j _ => by unfold setV; rw [if_pos he, if_neg hg])
      have h3 := sumN_tele (cumN (shAt l) (shrV l) (gS l e)) k
      have h4 : sumN (shareN (shAt l) (shrV l) (gS l e)) k = sumN (fun j => cumN (shAt l) (shrV l) (gS l e) (j + 1) - cumN (shAt l) (shrV l) (gS l e) j) k := rfl
      rw [cum_zero] at h3
      rw [h2, sumN_sub, h4, h3]
      omega
  · rw [if_neg he]
    by_cases ho : ordZ l < 0
    · rw [if_pos ho]; exact sumN_congr _ (fun j _ => by unfold setV; rw [if_neg he, if_pos ho])
    · rw [if_neg ho]
      have h2 : sumN (setV l e) k = sumN (fun j => wdAt l j + shareN (stO l (ordZ l)) (strV l (ordZ l)) e j) k := sumN_congr _ (fun j _ => by unfold setV; rw [if_neg he, if_neg ho])
      have h3 := sumN_tele (cumN (stO l (ordZ l)) (strV l (ordZ l)) e) k
      have h4 : sumN (shareN (stO l (ordZ l)) (strV l (ordZ l)) e) k = sumN (fun j => cumN (stO l (ordZ l)) (strV l (ordZ l)) e (j + 1) - cumN (stO l (ordZ l)) (strV l (ordZ l)) e j) k := rfl
      rw [cum_zero] at h3
      rw [h2, sumN_add, h4, h3]
      omega
theorem gS_pos {l : List Gl} (hv : VG l) {e : Int} (he : e < 0) (hg : ¬ gS l e = 0) : 0 < shrV l ∧ 0 < gS l e := by
  have := gS_in hv he
  omega
theorem plc_le_nat {l : List Gl} (hv : VG l) {e : Int} (he : e < 0) {k : Nat} (hk : k ≤ l.length) : plcV l e k ≤ sumN (wdAt l) k := by
  unfold plcV
  rw [if_pos he]
  split
  · exact Int.le_refl _
  · rename_i hg
    have h1 := gS_pos hv he hg
    have := cum_pos (g := gS l e) h1.1 (by omega) (shr_bound hv hk).1
    omega
theorem plc_ge_nat {l : List Gl} (hv : VG l) {e : Int} (he : ¬ e < 0) {k : Nat} (hk : k ≤ l.length) : sumN (wdAt l) k ≤ plcV l e k := by
  unfold plcV
  rw [if_neg he]
  split
  · exact Int.le_refl _
  · rename_i ho
    have := cum_pos (g := e) (str_pos hv ho) (by omega) (str_bound hv (ordZ l) hk).1
    omega
/-- P27.4: no place moves to the left when the width grows. -/
theorem places_law {l : List Gl} (hv : VG l) {d e : Int} (h : d ≤ e) {k : Nat} (hk : k ≤ l.length) : sumN (setV l d) k ≤ sumN (setV l e) k := by
  rw [plc_sum, plc_sum]
  by_cases hd : d < 0
  · by_cases he : e < 0
    · unfold plcV
      rw [if_pos hd, if_pos he]
      have g1 := gS_in hv hd
      have g2 := gS_in hv he
      have hg : gS l e ≤ gS l d := by unfold gS; split <;> split <;> omega
      by_cases e0 : gS l e = 0
      · rw [if_pos e0]
        by_cases d0 : gS l d = 0
        · rw [if_pos d0]; exact Int.le_refl _
        · rw [if_neg d0]
          have h1 := gS_pos hv hd d0
          have := cum_pos (g := gS l d) h1.1 (by omega) (shr_bound hv hk).1
          omega
      · have h1 := gS_pos hv he e0
        rw [if_neg e0, if_neg (by omega)]
        have := cum_mono h1.1 hg (shr_bound hv hk).1
        omega
    · exact Int.le_trans (plc_le_nat hv hd hk) (plc_ge_nat hv he hk)
  · have he : ¬ e < 0 := by omega
    unfold plcV
    rw [if_neg hd, if_neg he]
    by_cases ho : ordZ l < 0
    · rw [if_pos ho, if_pos ho]; exact Int.le_refl _
    · rw [if_neg ho, if_neg ho]
      have := cum_mono (str_pos hv ho) h (str_bound hv (ordZ l) hk).1
      omega
end Go.Proofs.Ytnhplbhjbpdcaaa
