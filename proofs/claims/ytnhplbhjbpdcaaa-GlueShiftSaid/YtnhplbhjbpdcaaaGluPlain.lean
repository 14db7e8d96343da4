/- Plain laws on the widths of a list that is set: no program in sight. -/
import Derived.Test.YtnhplbhjbpdcaaaGluRefTop
namespace Go.Proofs.Ytnhplbhjbpdcaaa
theorem cum_zero (f : Nat → Int) (T g : Int) : cumN f T g 0 = 0 := by simp [cumN, sumN]
theorem cum_all {f : Nat → Int} {T g : Int} {n : Nat} (h : sumN f n = T) (hT : 0 < T) : cumN f T g n = g := by
  unfold cumN
  rw [h, Int.mul_ediv_cancel _ (by omega)]
theorem share_sum {f : Nat → Int} {T g : Int} {n : Nat} (h : sumN f n = T) (hT : 0 < T) : sumN (shareN f T g) n = g := by
  have := sumN_tele (cumN f T g) n
  rw [cum_all h hT, cum_zero] at this
  have e : sumN (shareN f T g) n = sumN (fun j => cumN f T g (j + 1) - cumN f T g j) n := rfl
  omega
theorem sumN_sub (f g : Nat → Int) : ∀ k, sumN (fun j => f j - g j) k = sumN f k - sumN g k
  | 0 => rfl
  | k + 1 => by
    unfold sumN
    rw [sumN_sub f g k]
    omega
/-- Of a list that is stretched. -/
theorem str_pos {l : List Gl} (hv : VG l) (h : ¬ ordZ l < 0) : 0 < strV l (ordZ l) := by
  rcases ordZ_cases l with h1 | ⟨_, _, h2⟩
  · omega
  · rwa [strZ_ok hv] at h2
theorem gS_in {l : List Gl} (hv : VG l) {e : Int} (he : e < 0) : 0 ≤ gS l e ∧ gS l e ≤ shrV l ∧ gS l e ≤ -e := by
  have := (shr_bound hv (Nat.le_refl _)).1
  have h : 0 ≤ shrV l := this
  unfold gS
  split <;> omega
/-- P27.2: the widths and the rest add up. -/
theorem exact_sum {l : List Gl} (hv : VG l) (e : Int) : sumN (setV l e) l.length + restV l e = natV l + e := by
  unfold restV natV
  by_cases he : e < 0
  · rw [if_pos he]
    by_cases hg : gS l e = 0
    · have : sumN (setV l e) l.length = sumN (wdAt l) l.length := sumN_congr _ (fun j _ => by unfold setV; rw [if_pos he, if_pos hg])
      rw [this, hg]; omega
    · have h1 := gS_in hv he
      have h2 : sumN (setV l e) l.length = sumN (fun j => wdAt l j - shareN (shAt l) (shrV l) (gS l e) j) l.length := sumN_congr _ (fun j _ => by unfold setV; rw [if_pos he, if_neg hg])
      rw [h2, sumN_sub, share_sum (g := gS l e) (show sumN (shAt l) l.length = shrV l from rfl) (by omega)]
      omega
  · rw [if_neg he]
    by_cases ho : ordZ l < 0
    · rw [if_pos ho]
      have : sumN (setV l e) l.length = sumN (wdAt l) l.length := sumN_congr _ (fun j _ => by unfold setV; rw [if_neg he, if_pos ho])
      rw [this]
    · rw [if_neg ho]
      have h2 : sumN (setV l e) l.length = sumN (fun j => wdAt l j + shareN (stO l (ordZ l)) (strV l (ordZ l)) e j) l.length := sumN_congr _ (fun j _ => by unfold setV; rw [if_neg he, if_neg ho])
      rw [h2, sumN_add, share_sum (g := e) (show sumN (stO l (ordZ l)) l.length = strV l (ordZ l) from rfl) (str_pos hv ho)]
      omega
theorem sum_zero {f : Nat → Int} : ∀ n, (∀ j, j < n → 0 ≤ f j) → sumN f n = 0 → ∀ j, j < n → f j = 0
  | n + 1, h, h0, j, hj => by
    have h1 := sumN_pos (f := f) n (fun j hj => h j (by omega))
    have h2 := h n (by omega)
    have h3 : sumN f n + f n = 0 := h0
    by_cases e : j = n
    · subst e; omega
    · exact sum_zero n (fun j hj => h j (by omega)) (by omega) j (by omega)
theorem share_full {f : Nat → Int} {T : Int} (hT : 0 < T) (k : Nat) : shareN f T T k = f k := by
  unfold shareN cumN
  rw [Int.mul_ediv_cancel_left _ (by omega), Int.mul_ediv_cancel_left _ (by omega)]
  show sumN f k + f k - sumN f k = f k
  omega
/-- P27.2: a rest below 0 says that all is shrunk as far as possible. -/
theorem exact_rest {l : List Gl} (hv : VG l) {e : Int} (hr : restV l e < 0) {k : Nat} (hk : k < l.length) : setV l e k = wdAt l k - shAt l k := by
  have hsh : ∀ j, j < l.length → 0 ≤ shAt l j := fun j hj => by have := hv.2 j hj; unfold okG at this; omega
  unfold restV at hr
  by_cases he : e < 0
  · rw [if_pos he] at hr
    have hg : gS l e = shrV l := by unfold gS at hr ⊢; split <;> rename_i h <;> simp only [h, if_true, if_false] at hr <;> omega
    unfold setV
    rw [if_pos he, hg]
    have hz := (shr_bound hv (Nat.le_refl _)).1
    have hz : 0 ≤ shrV l := hz
    by_cases h0 : shrV l = 0
    · rw [if_pos h0, sum_zero _ hsh h0 k hk]; omega
    · rw [if_neg h0, share_full (by omega)]
  · rw [if_neg he] at hr
    split at hr <;> omega
theorem exact_pos {l : List Gl} (hv : VG l) (e : Int) : restV l e ≤ 0 ∨ ordZ l < 0 := by
  unfold restV
  by_cases he : e < 0
  · rw [if_pos he]
    have := gS_in hv he
    left; omega
  · rw [if_neg he]
    by_cases ho : ordZ l < 0
    · exact .inr ho
    · rw [if_neg ho]; exact .inl (Int.le_refl _)
end Go.Proofs.Ytnhplbhjbpdcaaa
