/- Glue: plain words on shares. -/
import Derived.Test.YtjckbdbjcgjcaaaM5
/- Plain laws on the widths of a list that is set: no program in sight. -/
namespace Go.Proofs.Ytjckbdbjcgjcaaa.Gu
theorem cum_zero (f : Nat → Int) (T g : Int) : cumN f T g 0 = 0 := by simp [cumN, sumN]
theorem cum_all {f : Nat → Int} {T g : Int} {n : Nat} (h : sumN f n = T) (hT : 0 < T) : cumN f T g n = g := by
  unfold cumN
  rw [h, Int.mul_ediv_cancel _ (by omega)]
theorem share_sum {f : Nat → Int} {T g : Int} {n : Nat} (h : sumN f n = T) (hT : 0 < T) : sumN (shareN f T g) n = g := by
  have := sumN_tele (cumN f T g) n
  rw [cum_all h hT, cum_zero] at this
  have e : sumN (shareN f T g) n = sumN (fun j => cumN f T g (j + 1) - cumN f T g j) n := rfl
  omega
theorem sumN_sub (f g : Nat → Int) : ∀ k, sumN (fun j => f j - g j) k = sumN f k - sumN g k
  | 0 => rfl
  | k + 1 => by
    unfold sumN
    rw [sumN_sub f g k]
    omega
/-- Of a list that is stretched. -/
theorem str_pos {l : List Gl} (hv : VG l) (h : ¬ ordZ l < 0) : 0 < strV l (ordZ l) := by
  rcases ordZ_cases l with h1 | ⟨_, _, h2⟩
  · omega
  · rwa [strZ_ok hv] at h2
theorem gS_in {l : List Gl} (hv : VG l) {e : Int} (he : e < 0) : 0 ≤ gS l e ∧ gS l e ≤ shrV l ∧ gS l e ≤ -e := by
  have := (shr_bound hv (Nat.le_refl _)).1
  have h : 0 ≤ shrV l := this
  unfold gS
  split <;> omega
/-- P27.2: the widths and the rest add up. -/
theorem exact_sum {l : List Gl} (hv : VG l) (e : Int) : sumN (setV l e) l.length + restV l e = natV l + e := by
  unfold restV natV
  by_cases he : e < 0
  · rw [if_pos he]
    by_cases hg : gS l e = 0
    · have : sumN (setV l e) l.length = sumN (wdAt l) l.length := sumN_congr _ (fun j _ => by unfold setV; rw [if_pos he, if_pos hg])
      rw [this, hg]; omega
    · have h1 := gS_in hv he
      have h2 : sumN (setV l e) l.length = sumN (fun j => wdAt l j - shareN (shAt l) (shrV l) (gS l e) j) l.length := sumN_congr _ (fun j _ => by unfold setV; rw [if_pos he, if_neg hg])
      rw [h2, sumN_sub, share_sum (g := gS l e) (show sumN (shAt l) l.length = shrV l from rfl) (by omega)]
      omega
  · rw [if_neg he]
    by_cases ho : ordZ l < 0
    · rw [if_pos ho]
      have : sumN (setV l e) l.length = sumN (wdAt l) l.length := sumN_congr _ (fun j _ => by unfold setV; rw [if_neg he, if_pos ho])
      rw [this]
    · rw [if_neg ho]
      have h2 : sumN (setV l e) l.length = sumN (fun j => wdAt l j + shareN (stO l (ordZ l)) (strV l (ordZ l)) e j) l.length := sumN_congr _ (fun j _ => by unfold setV; rw [if_neg he, if_neg ho])
      rw [h2, sumN_add, share_sum (g := e) (show sumN (stO l (ordZ l)) l.length = strV l (ordZ l) from rfl) (str_pos hv ho)]
      omega
theorem sum_zero {f : Nat → Int} : ∀ n, (∀ j, j < n → 0 ≤ f j) → sumN f n = 0 → ∀ j, j < n → f j = 0
  | n + 1, h, h0, j, hj => by
    have h1 := sumN_pos (f := f) n (fun j hj => h j (by omega))
    have h2 := h n (by omega)
    have h3 : sumN f n + f n = 0 := h0
    by_cases e : j = n
    · subst e; omega
    · exact sum_zero n (fun j hj => h j (by omega)) (by omega) j (by omega)
theorem share_full {f : Nat → Int} {T : Int} (hT : 0 < T) (k : Nat) : shareN f T T k = f k := by
  unfold shareN cumN
  rw [Int.mul_ediv_cancel_left _ (by omega), Int.mul_ediv_cancel_left _ (by omega)]
  show sumN f k + f k - sumN f k = f k
  omega
/-- P27.2: a rest below 0 says that all is shrunk as far as possible. -/
theorem exact_rest {l : List Gl} (hv : VG l) {e : Int} (hr : restV l e < 0) {k : Nat} (hk : k < l.length) : setV l e k = wdAt l k - shAt l k := by
  have hsh : ∀ j, j < l.length → 0 ≤ shAt l j := fun j hj => by have := hv.2 j hj; unfold okG at this; omega
  unfold restV at hr
  by_cases he : e < 0
  · rw [if_pos he] at hr
    have hg : gS l e = shrV l := by unfold gS at hr ⊢; split <;> rename_i h <;> simp only [h, if_true, if_false] at hr <;> omega
    unfold setV
    rw [if_pos he, hg]
    have hz := (shr_bound hv (Nat.le_refl _)).1
    have hz : 0 ≤ shrV l := hz
    by_cases h0 : shrV l = 0
    · rw [if_pos h0, sum_zero _ hsh h0 k hk]; omega
    · rw [if_neg h0, share_full (by omega)]
  · rw [if_neg he] at hr
    split at hr <;> omega
theorem exact_pos {l : List Gl} (hv : VG l) (e : Int) : restV l e ≤ 0 ∨ ordZ l < 0 := by
  unfold restV
  by_cases he : e < 0
  · rw [if_pos he]
    have := gS_in hv he
    left; omega
  · rw [if_neg he]
    by_cases ho : ordZ l < 0
    · exact .inr ho
    · rw [if_neg ho]; exact .inl (Int.le_refl _)
end Go.Proofs.Ytjckbdbjcgjcaaa.Gu
/- Plain laws on shares: limits, places, equal parts, a shifted width. -/
namespace Go.Proofs.Ytjckbdbjcgjcaaa.Gu
/-- A share against the exact one. -/
theorem share_near (f : Nat → Int) {T g : Int} (hT : 0 < T) (k : Nat) : g * f k - shareN f T g k * T < T ∧ -T < g * f k - shareN f T g k * T := by
  unfold shareN cumN
  have e : g * sumN f (k + 1) = g * sumN f k + g * f k := by rw [← Int.mul_add]; rfl
  rw [e]
  generalize g * sumN f k = a
  generalize g * f k = b
  have h1 := Int.mul_ediv_add_emod a T
  have h2 := Int.mul_ediv_add_emod (a + b) T
  have h3 := Int.emod_nonneg a (show T ≠ 0 by omega)
  have h4 := Int.emod_lt_of_pos a hT
  have h5 := Int.emod_nonneg (a + b) (show T ≠ 0 by omega)
  have h6 := Int.emod_lt_of_pos (a + b) hT
  have e2 : ((a + b) / T - a / T) * T = T * ((a + b) / T) - T * (a / T) := by rw [Int.mul_comm, Int.mul_sub]
  rw [e2]
  omega
theorem share_pos {f : Nat → Int} {T g : Int} (hT : 0 < T) (hg : 0 ≤ g) {k : Nat} (hk : 0 ≤ f k) : 0 ≤ shareN f T g k := by
  unfold shareN cumN
  have e : g * sumN f (k + 1) = g * sumN f k + g * f k := by rw [← Int.mul_add]; rfl
  rw [e]
  have h1 := Int.mul_nonneg hg hk
  have h2 : g * sumN f k / T ≤ (g * sumN f k + g * f k) / T := Int.ediv_le_ediv hT (by omega)
  omega
theorem share_top {f : Nat → Int} {T g : Int} (hT : 0 < T) (hg : g ≤ T) {k : Nat} (hk : 0 ≤ f k) : shareN f T g k ≤ f k := by
  unfold shareN cumN
  have e : g * sumN f (k + 1) = g * sumN f k + g * f k := by rw [← Int.mul_add]; rfl
  rw [e]
  have h1 : g * f k ≤ T * f k := Int.mul_le_mul_of_nonneg_right hg hk
  have h2 : (g * sumN f k + g * f k) / T ≤ (g * sumN f k + T * f k) / T := Int.ediv_le_ediv hT (by omega)
  rw [Int.add_mul_ediv_left _ _ (by omega)] at h2
  omega
theorem share_none (f : Nat → Int) (T : Int) (k : Nat) : shareN f T 0 k = 0 := by simp [shareN, cumN]
/-- Equal parts have shares that differ by at most 1. -/
theorem share_equal {f : Nat → Int} {T g : Int} (hT : 0 < T) (k : Nat) : g * f k / T ≤ shareN f T g k ∧ shareN f T g k ≤ g * f k / T + 1 := by
  unfold shareN cumN
  have e : g * sumN f (k + 1) = g * sumN f k + g * f k := by rw [← Int.mul_add]; rfl
  rw [e]
  generalize g * sumN f k = a
  generalize g * f k = b
  have h1 := Int.mul_ediv_add_emod a T
  have h2 := Int.mul_ediv_add_emod b T
  have h3 := Int.emod_nonneg a (show T ≠ 0 by omega)
  have h4 := Int.emod_lt_of_pos a hT
  have h5 := Int.emod_nonneg b (show T ≠ 0 by omega)
  have h6 := Int.emod_lt_of_pos b hT
  have e1 : a + b = (a % T + b % T) + T * (a / T + b / T) := by rw [Int.mul_add]; omega
  rw [e1, Int.add_mul_ediv_left _ _ (by omega)]
  have h7 : 0 ≤ (a % T + b % T) / T := Int.ediv_nonneg (by omega) (by omega)
  have h8 : (a % T + b % T) / T ≤ 1 := by
    have := Int.ediv_lt_of_lt_mul hT (show a % T + b % T < 2 * T by omega)
    omega
  omega
theorem cum_mono {f : Nat → Int} {T g h : Int} (hT : 0 < T) (hg : g ≤ h) {k : Nat} (hk : 0 ≤ sumN f k) : cumN f T g k ≤ cumN f T h k := by
  unfold cumN
  exact Int.ediv_le_ediv hT (Int.mul_le_mul_of_nonneg_right hg hk)
theorem cum_pos {f : Nat → Int} {T g : Int} (hT : 0 < T) (hg : 0 ≤ g) {k : Nat} (hk : 0 ≤ sumN f k) : 0 ≤ cumN f T g k := by
  unfold cumN
  exact Int.ediv_nonneg (Int.mul_nonneg hg hk) (by omega)
/-- Where element k begins. -/
def plcV (l : List Gl) (e : Int) (k : Nat) : Int :=
  if e < 0 then (if gS l e = 0 then sumN (wdAt l) k else sumN (wdAt l) k - cumN (shAt l) (shrV l) (gS l e) k)
  else (if ordZ l < 0 then sumN (wdAt l) k else sumN (wdAt l) k + cumN (stO l (ordZ l)) (strV l (ordZ l)) e k)
theorem plc_sum (l : List Gl) (e : Int) (k : Nat) : sumN (setV l e) k = plcV l e k := by
  unfold plcV
  by_cases he : e < 0
  · rw [if_pos he]
    by_cases hg : gS l e = 0
    · rw [if_pos hg]; exact sumN_congr _ (fun j _ => by unfold setV; rw [if_pos he, if_pos hg])
    · rw [if_neg hg]
      have h2 : sumN (setV l e) k = sumN (fun j => wdAt l j - shareN (shAt l) (shrV l) (gS l e) j) k := sumN_congr _ (fun j _ => by unfold setV; rw [if_pos he, if_neg hg])
      have h3 := sumN_tele (cumN (shAt l) (shrV l) (gS l e)) k
      have h4 : sumN (shareN (shAt l) (shrV l) (gS l e)) k = sumN (fun j => cumN (shAt l) (shrV l) (gS l e) (j + 1) - cumN (shAt l) (shrV l) (gS l e) j) k := rfl
      rw [cum_zero] at h3
      rw [h2, sumN_sub, h4, h3]
      omega
  · rw [if_neg he]
    by_cases ho : ordZ l < 0
    · rw [if_pos ho]; exact sumN_congr _ (fun j _ => by unfold setV; rw [if_neg he, if_pos ho])
    · rw [if_neg ho]
      have h2 : sumN (setV l e) k = sumN (fun j => wdAt l j + shareN (stO l (ordZ l)) (strV l (ordZ l)) e j) k := sumN_congr _ (fun j _ => by unfold setV; rw [if_neg he, if_neg ho])
      have h3 := sumN_tele (cumN (stO l (ordZ l)) (strV l (ordZ l)) e) k
      have h4 : sumN (shareN (stO l (ordZ l)) (strV l (ordZ l)) e) k = sumN (fun j => cumN (stO l (ordZ l)) (strV l (ordZ l)) e (j + 1) - cumN (stO l (ordZ l)) (strV l (ordZ l)) e j) k := rfl
      rw [cum_zero] at h3
      rw [h2, sumN_add, h4, h3]
      omega
theorem gS_pos {l : List Gl} (hv : VG l) {e : Int} (he : e < 0) (hg : ¬ gS l e = 0) : 0 < shrV l ∧ 0 < gS l e := by
  have := gS_in hv he
  omega
theorem plc_le_nat {l : List Gl} (hv : VG l) {e : Int} (he : e < 0) {k : Nat} (hk : k ≤ l.length) : plcV l e k ≤ sumN (wdAt l) k := by
  unfold plcV
  rw [if_pos he]
  split
  · exact Int.le_refl _
  · rename_i hg
    have h1 := gS_pos hv he hg
    have := cum_pos (g := gS l e) h1.1 (by omega) (shr_bound hv hk).1
    omega
theorem plc_ge_nat {l : List Gl} (hv : VG l) {e : Int} (he : ¬ e < 0) {k : Nat} (hk : k ≤ l.length) : sumN (wdAt l) k ≤ plcV l e k := by
  unfold plcV
  rw [if_neg he]
  split
  · exact Int.le_refl _
  · rename_i ho
    have := cum_pos (g := e) (str_pos hv ho) (by omega) (str_bound hv (ordZ l) hk).1
    omega
/-- P27.4: no place moves to the left when the width grows. -/
theorem places_law {l : List Gl} (hv : VG l) {d e : Int} (h : d ≤ e) {k : Nat} (hk : k ≤ l.length) : sumN (setV l d) k ≤ sumN (setV l e) k := by
  rw [plc_sum, plc_sum]
  by_cases hd : d < 0
  · by_cases he : e < 0
    · unfold plcV
      rw [if_pos hd, if_pos he]
      have g1 := gS_in hv hd
      have g2 := gS_in hv he
      have hg : gS l e ≤ gS l d := by unfold gS; split <;> split <;> omega
      by_cases e0 : gS l e = 0
      · rw [if_pos e0]
        by_cases d0 : gS l d = 0
        · rw [if_pos d0]; exact Int.le_refl _
        · rw [if_neg d0]
          have h1 := gS_pos hv hd d0
          have := cum_pos (g := gS l d) h1.1 (by omega) (shr_bound hv hk).1
          omega
      · have h1 := gS_pos hv he e0
        rw [if_neg e0, if_neg (by omega)]
        have := cum_mono h1.1 hg (shr_bound hv hk).1
        omega
    · exact Int.le_trans (plc_le_nat hv hd hk) (plc_ge_nat hv he hk)
  · have he : ¬ e < 0 := by omega
    unfold plcV
    rw [if_neg hd, if_neg he]
    by_cases ho : ordZ l < 0
    · rw [if_pos ho, if_pos ho]; exact Int.le_refl _
    · rw [if_neg ho, if_neg ho]
      have := cum_mono (str_pos hv ho) h (str_bound hv (ordZ l) hk).1
      omega
end Go.Proofs.Ytjckbdbjcgjcaaa.Gu
/- Plain laws: limits, equal elements, a shifted width. -/
namespace Go.Proofs.Ytjckbdbjcgjcaaa.Gu
/-- d is within 1 of the exact share of p in r, where the parts have the sum T. -/
def NearP (r p T d : Int) : Prop := (T = 0 → d = 0) ∧ (T ≠ 0 → r * p - d * T < T ∧ -T < r * p - d * T)
theorem sh_pos {l : List Gl} (hv : VG l) {k : Nat} (hk : k < l.length) : 0 ≤ shAt l k := by have := hv.2 k hk; unfold okG at this; omega
theorem str_none {l : List Gl} (hv : VG l) {o : Int} (ho : o < 0) : strV l o = 0 := by
  have : strV l o = sumN (fun _ => 0) l.length := sumN_congr _ (fun j hj => by
    have := hv.2 j hj
    unfold okG at this
    unfold stO
    rw [if_neg (by omega)])
  rw [this]
  have h : ∀ n, sumN (fun _ => 0) n = 0 := fun n => by
    induction n with
    | zero => rfl
    | succ n ih => show sumN (fun _ => 0) n + 0 = 0; omega
  exact h _
/-- P27.3. -/
theorem limits_law {l : List Gl} (hv : VG l) (e : Int) {k : Nat} (hk : k < l.length) :
    -shAt l k ≤ setV l e k - wdAt l k ∧ (0 ≤ e → 0 ≤ setV l e k - wdAt l k) ∧ (e ≤ 0 → setV l e k - wdAt l k ≤ 0) ∧
    (0 ≤ e → NearP (e - restV l e) (stO l (ordZ l) k) (strV l (ordZ l)) (setV l e k - wdAt l k)) ∧ (e < 0 → NearP (e - restV l e) (shAt l k) (shrV l) (setV l e k - wdAt l k)) := by
  have hs := sh_pos hv hk
  by_cases he : e < 0
  · have hr : restV l e = gS l e + e := by unfold restV; rw [if_pos he]
    have hg := gS_in hv he
    by_cases h0 : gS l e = 0
    · have hw : setV l e k = wdAt l k := by unfold setV; rw [if_pos he, if_pos h0]
      rw [hw, hr, h0]
      refine ⟨by omega, by omega, by omega, fun h => by omega, fun _ => ⟨fun _ => by omega, fun hT => ?_⟩⟩
      have e1 : (e - (0 + e)) * shAt l k = 0 := by rw [show e - (0 + e) = 0 by omega, Int.zero_mul]
      have e2 : (wdAt l k - wdAt l k) * shrV l = 0 := by rw [Int.sub_self, Int.zero_mul]
      rw [e1, e2]
      have : 0 ≤ shrV l := (shr_bound hv (Nat.le_refl _)).1
      omega
    · have hp := gS_pos hv he h0
      have hw : setV l e k = wdAt l k - shareN (shAt l) (shrV l) (gS l e) k := by unfold setV; rw [if_pos he, if_neg h0]
      have h1 := share_pos (f := shAt l) hp.1 hg.1 hs
      have h2 := share_top (f := shAt l) hp.1 hg.2.1 hs
      have h3 := share_near (shAt l) (g := gS l e) hp.1 k
      rw [hw, hr]
      refine ⟨by omega, by omega, by omega, fun h => by omega, fun _ => ⟨fun h => by omega, fun _ => ?_⟩⟩
      have e1 : (e - (gS l e + e)) * shAt l k = -(gS l e * shAt l k) := by rw [show e - (gS l e + e) = -gS l e by omega, Int.neg_mul]
      have e2 : (wdAt l k - shareN (shAt l) (shrV l) (gS l e) k - wdAt l k) * shrV l = -(shareN (shAt l) (shrV l) (gS l e) k * shrV l) := by
        rw [show wdAt l k - shareN (shAt l) (shrV l) (gS l e) k - wdAt l k = -shareN (shAt l) (shrV l) (gS l e) k by omega, Int.neg_mul]
      rw [e1, e2]
      omega
  · by_cases ho : ordZ l < 0
    · have hw : setV l e k = wdAt l k := by unfold setV; rw [if_neg he, if_pos ho]
      have hT := str_none hv ho
      rw [hw, hT]
      exact ⟨by omega, by omega, by omega, fun _ => ⟨fun _ => by omega, fun h => absurd rfl h⟩, fun h => absurd h he⟩
    · have hr : restV l e = 0 := by unfold restV; rw [if_neg he, if_neg ho]
      have hw : setV l e k = wdAt l k + shareN (stO l (ordZ l)) (strV l (ordZ l)) e k := by unfold setV; rw [if_neg he, if_neg ho]
      have hT := str_pos hv ho
      have hf := (stO_range hv (ordZ l) hk).1
      have h1 := share_pos (f := stO l (ordZ l)) hT (show 0 ≤ e by omega) hf
      have h3 := share_near (stO l (ordZ l)) (g := e) hT k
      have h4 : e ≤ 0 → shareN (stO l (ordZ l)) (strV l (ordZ l)) e k = 0 := fun h => by rw [show e = 0 by omega]; exact share_none _ _ _
      rw [hw, hr]
      refine ⟨by omega, by omega, fun h => by have := h4 h; omega, fun _ => ⟨fun h => by omega, fun _ => ?_⟩, fun h => absurd h he⟩
      rw [Int.sub_zero, show wdAt l k + shareN (stO l (ordZ l)) (strV l (ordZ l)) e k - wdAt l k = shareN (stO l (ordZ l)) (strV l (ordZ l)) e k by omega]
      exact h3
/-- P27.5: equal elements have widths that differ by at most 1. -/
theorem equal_law {l : List Gl} (hv : VG l) {a s q d : Int} (h : ∀ k, k < l.length → wdAt l k = a ∧ stAt l k = s ∧ shAt l k = q ∧ odAt l k = d) (e : Int) {j k : Nat} (hj : j < l.length) (hk : k < l.length) : -1 ≤ setV l e j - setV l e k ∧ setV l e j - setV l e k ≤ 1 := by
  obtain ⟨j1, j2, j3, j4⟩ := h j hj
  obtain ⟨k1, k2, k3, k4⟩ := h k hk
  by_cases he : e < 0
  · by_cases h0 : gS l e = 0
    · have hw : ∀ k, setV l e k = wdAt l k := fun k => by unfold setV; rw [if_pos he, if_pos h0]
      rw [hw, hw]; omega
    · have hp := gS_pos hv he h0
      have hw : ∀ k, setV l e k = wdAt l k - shareN (shAt l) (shrV l) (gS l e) k := fun k => by unfold setV; rw [if_pos he, if_neg h0]
      have h1 := share_equal (f := shAt l) (g := gS l e) hp.1 j
      have h2 := share_equal (f := shAt l) (g := gS l e) hp.1 k
      rw [j3] at h1
      rw [k3] at h2
      rw [hw, hw]; omega
  · by_cases ho : ordZ l < 0
    · have hw : ∀ k, setV l e k = wdAt l k := fun k => by unfold setV; rw [if_neg he, if_pos ho]
      rw [hw, hw]; omega
    · have hw : ∀ k, setV l e k = wdAt l k + shareN (stO l (ordZ l)) (strV l (ordZ l)) e k := fun k => by unfold setV; rw [if_neg he, if_neg ho]
      have h1 := share_equal (f := stO l (ordZ l)) (g := e) (str_pos hv ho) j
      have h2 := share_equal (f := stO l (ordZ l)) (g := e) (str_pos hv ho) k
      have e1 : stO l (ordZ l) j = stO l (ordZ l) k := by unfold stO; rw [j4, k4, j2, k2]
      rw [e1] at h1
      rw [hw, hw]; omega
/-- The width of element j has grown by b. -/
def ShiftP (l m : List Gl) (j : Nat) (b : Int) : Prop := m.length = l.length ∧ ∀ k, k < l.length → wdAt m k = wdAt l k + (if k = j then b else 0) ∧ stAt m k = stAt l k ∧ shAt m k = shAt l k ∧ odAt m k = odAt l k
theorem shift_str {l m : List Gl} {j : Nat} {b : Int} (h : ShiftP l m j b) (o : Int) {k : Nat} (hk : k ≤ l.length) : sumN (stO m o) k = sumN (stO l o) k :=
  sumN_congr _ (fun i hi => by obtain ⟨_, h2, _, h4⟩ := h.2 i (by omega); unfold stO; rw [h2, h4])
theorem shift_shr {l m : List Gl} {j : Nat} {b : Int} (h : ShiftP l m j b) {k : Nat} (hk : k ≤ l.length) : sumN (shAt m) k = sumN (shAt l) k :=
  sumN_congr _ (fun i hi => (h.2 i (by omega)).2.2.1)
theorem sum_one (j : Nat) (b : Int) : ∀ n, sumN (fun k => if k = j then b else 0) n = if j < n then b else 0
  | 0 => rfl
  | n + 1 => by
    have ih := sum_one j b n
    show sumN _ n + (if n = j then b else 0) = _
    rw [ih]
    by_cases e : n = j
    · subst e; rw [if_neg (by omega), if_pos rfl, if_pos (by omega)]; omega
    · rw [if_neg e]
      by_cases h : j < n
      · rw [if_pos h, if_pos (by omega)]; omega
      · rw [if_neg h, if_neg (by omega)]; omega
theorem shift_nat {l m : List Gl} {j : Nat} {b : Int} (h : ShiftP l m j b) (hj : j < l.length) : natV m = natV l + b := by
  unfold natV
  rw [h.1]
  have e1 : sumN (wdAt m) l.length = sumN (fun k => wdAt l k + (if k = j then b else 0)) l.length := sumN_congr _ (fun i hi => (h.2 i hi).1)
  rw [e1, sumN_add, sum_one, if_pos hj]
theorem shift_ord {l m : List Gl} {j : Nat} {b : Int} (h : ShiftP l m j b) (hv : VG l) (hm : VG m) : ordZ m = ordZ l := by
  have hs : ∀ o, strZ m o = strZ l o := fun o => by
    rw [strZ_ok hv, strZ_ok hm]
    unfold strV
    rw [h.1]
    exact shift_str h o (Nat.le_refl _)
  have : ∀ n, ordN m n = ordN l n := fun n => by
    induction n with
    | zero => rfl
    | succ n ih => unfold ordN; rw [hs, ih]
  exact this 4
/-- P27.6. -/
theorem shift_law {l m : List Gl} {j : Nat} {b : Int} (h : ShiftP l m j b) (hv : VG l) (hm : VG m) (e : Int) : restV m e = restV l e ∧ ∀ k, k < l.length → setV m e k = setV l e k + (if k = j then b else 0) := by
  have ho := shift_ord h hv hm
  have hr : shrV m = shrV l := by unfold shrV; rw [h.1]; exact shift_shr h (Nat.le_refl _)
  have hg : gS m e = gS l e := by unfold gS; rw [hr]
  refine ⟨by unfold restV; rw [hg, ho], fun k hk => ?_⟩
  have hw := (h.2 k hk).1
  have hT : strV m (ordZ l) = strV l (ordZ l) := by unfold strV; rw [h.1]; exact shift_str h _ (Nat.le_refl _)
  have c1 : shareN (shAt m) (shrV l) (gS l e) k = shareN (shAt l) (shrV l) (gS l e) k := by unfold shareN cumN; rw [shift_shr h (by omega), shift_shr h (by omega)]
  have c2 : shareN (stO m (ordZ l)) (strV l (ordZ l)) e k = shareN (stO l (ordZ l)) (strV l (ordZ l)) e k := by unfold shareN cumN; rw [shift_str h _ (by omega), shift_str h _ (by omega)]
  unfold setV
  rw [hg, hr, ho, hT, c1, c2, hw]
  split <;> split <;> omega
end Go.Proofs.Ytjckbdbjcgjcaaa.Gu
/- The closure that hands out shares, whatever its numbers are: with the wraps as they stand. -/
namespace Go.Proofs.Ytjckbdbjcgjcaaa.Gu
open Go.RowKit
/-- What a share changes: the sum, the share's end, the share. -/
def shS (s part : Int) : Int := IntKind.i64.wrap (s + part)
def shQ (g T s' : Int) : Int := IntKind.i64.wrap ((IntKind.i64.wrap (g * s')).tdiv T)
def shVv (q b : Int) : Int := IntKind.i64.wrap (q - b)
set_option maxHeartbeats 1000000 in
theorem share_gen (bs bg bT bb : Nat) (s0 g T b part : Int) (w : World) (hs : Boxed w bs 3 (.int .i64 s0)) (hg : Boxed w bg 3 (.int .i64 g)) (hT : Boxed w bT 3 (.int .i64 T)) (hb : Boxed w bb 3 (.int .i64 b)) (d1 : bs ≠ bg) (d2 : bs ≠ bT) (d3 : bs ≠ bb) (h5 : 0 < T) :
    Calls Try.prog 71 #[.int .i64 part, .pointer (some ⟨bs, 0, none⟩), .pointer (some ⟨bg, 0, none⟩), .pointer (some ⟨bT, 0, none⟩), .pointer (some ⟨bb, 0, none⟩)] w fun e w' =>
      e = .returned (.int .i64 (shVv (shQ g T (shS s0 part)) b)) ∧ w' = (w.setCell ⟨bs, 0, none⟩ (.int .i64 (shS s0 part))).setCell ⟨bb, 0, none⟩ (.int .i64 (shQ g T (shS s0 part))) := by
  obtain ⟨s1, hs1⟩ : ∃ x, IntKind.i64.wrap (s0 + part) = x := ⟨_, rfl⟩
  obtain ⟨m, hm⟩ : ∃ x, IntKind.i64.wrap (g * s1) = x := ⟨_, rfl⟩
  obtain ⟨q, hq⟩ : ∃ x, IntKind.i64.wrap (m.tdiv T) = x := ⟨_, rfl⟩
  obtain ⟨v, hv⟩ : ∃ x, IntKind.i64.wrap (q - b) = x := ⟨_, rfl⟩
  have hS : shS s0 part = s1 := hs1
  have hQ : shQ g T s1 = q := by unfold shQ; rw [hm, hq]
  have hV : shVv q b = v := hv
  rw [hS, hQ, hV]
  clear hS hQ hV
  have e1 := hs.cell
  have z1 := hs.frozen
  have hs' := hs.set (.int .i64 s1)
  have e2 : (w.setCell ⟨bs, 0, none⟩ (.int .i64 s1)).cell? ⟨bg, 0, none⟩ = some (.int .i64 g) := (hg.other (Ne.symm d1) _).cell
  have e3 : (w.setCell ⟨bs, 0, none⟩ (.int .i64 s1)).cell? ⟨bT, 0, none⟩ = some (.int .i64 T) := (hT.other (Ne.symm d2) _).cell
  have e5 : (w.setCell ⟨bs, 0, none⟩ (.int .i64 s1)).cell? ⟨bb, 0, none⟩ = some (.int .i64 b) := (hb.other (Ne.symm d3) _).cell
  have z5 := (hb.other (Ne.symm d3) (.int .i64 s1)).frozen
  have e6 := hs'.cell
  have s5 : ¬ T = 0 := by omega
  clear hs hg hT hb hs'
  go_enter Try.func71, Try.ntmps71
  go_wp2
  go_ret
  exact ⟨rfl, rfl⟩
end Go.Proofs.Ytjckbdbjcgjcaaa.Gu
