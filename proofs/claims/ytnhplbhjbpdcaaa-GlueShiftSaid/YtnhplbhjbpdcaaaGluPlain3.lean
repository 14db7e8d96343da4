/- Plain laws: limits, equal elements, a shifted width. -/
import Derived.Test.YtnhplbhjbpdcaaaGluPlain2
namespace Go.Proofs.Ytnhplbhjbpdcaaa
/-- d is within 1 of the exact share of p in r, where the parts have the sum T. -/
def NearP (r p T d : Int) : Prop := (T = 0 → d = 0) ∧ (T ≠ 0 → r * p - d * T < T ∧ -T < r * p - d * T)
theorem sh_pos {l : List Gl} (hv : VG l) {k : Nat} (hk : k < l.length) : 0 ≤ shAt l k := by have := hv.2 k hk; unfold okG at this; omega
theorem str_none {l : List Gl} (hv : VG l) {o : Int} (ho : o < 0) : strV l o = 0 := by
  have : strV l o = sumN (fun _ => 0) l.length := sumN_congr _ (fun j hj => by
    have := hv.2 j hj
    unfold okG at this
    unfold stO
    rw [if_neg (by omega)])
  rw [this]
  have h : ∀ n, sumN (fun _ => 0) n = 0 := fun n => by
    induction n with
    | zero => rfl
    | succ n ih => show sumN (fun _ => 0) n + 0 = 0; omega
  exact h _
/-- P27.3. -/
theorem limits_law {l : List Gl} (hv : VG l) (e : Int) {k : Nat} (hk : k < l.length) :
    -shAt l k ≤ setV l e k - wdAt l k ∧ (0 ≤ e → 0 ≤ setV l e k - wdAt l k) ∧ (e ≤ 0 → setV l e k - wdAt l k ≤ 0) ∧
    (0 ≤ e → NearP (e - restV l e) (stO l (ordZ l) k) (strV l (ordZ l)) (setV l e k - wdAt l k)) ∧ (e < 0 → NearP (e - restV l e) (shAt l k) (shrV l) (setV l e k - wdAt l k)) := by
  have hs := sh_pos hv hk
  by_cases he : e < 0
  · have hr : restV l e = gS l e + e := by unfold restV; rw [if_pos he]
    have hg := gS_in hv he
    by_cases h0 : gS l e = 0
    · have hw : setV l e k = wdAt l k := by unfold setV; rw [if_pos he, if_pos h0]
      rw [hw, hr, h0]
      refine ⟨by omega, by omega, by omega, fun h => by omega, fun _ => ⟨fun _ => by omega, fun hT => ?_⟩⟩
      have e1 : (e - (0 + e)) * shAt l k = 0 := by rw [show e - (0 + e) = 0 by omega, Int.zero_mul]
      have e2 : (wdAt l k - wdAt l k) * shrV l = 0 := by rw [Int.sub_self, Int.zero_mul]
      rw [e1, e2]
      have : 0 ≤ shrV l := (shr_bound hv (Nat.le_refl _)).1
      omega
    · have hp := gS_pos hv he h0
      have hw : setV l e k = wdAt l k - shareN (shAt l) (shrV l) (gS l e) k := by unfold setV; rw [if_pos he, if_neg h0]
      have h1 := share_pos (f := shAt l) hp.1 hg.1 hs
      have h2 := share_top (f := shAt l) hp.1 hg.2.1 hs
      have h3 := share_near (shAt l) (g := gS l e) hp.1 k
      rw [hw, hr]
      refine ⟨by omega, by omega, by omega, fun h => by omega, fun _ => ⟨fun h => by omega, fun _ => ?_⟩⟩
      have e1 : (e - (gS l e + e)) * shAt l k = -(gS l e * shAt l k) := by rw [show e - (gS l e + e) = -gS l e by omega, Int.neg_mul]
      have e2 : (wdAt l k - shareN (shAt l) (shrV l) (gS l e) k - wdAt l k) * shrV l = -(shareN (shAt l) (shrV l) (gS l e) k * shrV l) := by
        rw [show wdAt l k - shareN (shAt l) (shrV l) (gS l e) k - wdAt l k = -shareN (shAt l) (shrV l) (gS l e) k by omega, Int.neg_mul]
      rw [e1, e2]
      omega
  · by_cases ho : ordZ l < 0
    · have hw : setV l e k = wdAt l k := by unfold setV; rw [if_neg he, if_pos ho]
      have hT := str_none hv ho
      rw [hw, hT]
      exact ⟨by omega, by omega, by omega, fun _ => ⟨fun _ => by omega, fun h => absurd rfl h⟩, fun h => absurd h he⟩
    · have hr : restV l e = 0 := by unfold restV; rw [if_neg he, if_neg ho]
      have hw : setV l e k = wdAt l k + shareN (stO l (ordZ l)) (strV l (ordZ l)) e k := by unfold setV; rw [if_neg he, if_neg ho]
      have hT := str_pos hv ho
      have hf := (stO_range hv (ordZ l) hk).1
      have h1 := share_pos (f := stO l (ordZ l)) hT (show 0 ≤ e by omega) hf
      have h3 := share_near (stO l (ordZ l)) (g := e) hT k
      have h4 : e ≤ 0 → shareN (stO l (ordZ l)) (strV l (ordZ l)) e k = 0 := fun h => by rw [show e = 0 by omega]; exact share_none _ _ _
      rw [hw, hr]
      refine ⟨by omega, by omega, fun h => by have := h4 h; omega, fun _ => ⟨fun h => by omega, fun _ => ?_⟩, fun h => absurd h he⟩
      rw [Int.sub_zero, show wdAt l k + shareN (stO l (ordZ l)) (strV l (ordZ l)) e k - wdAt l k = shareN (stO l (ordZ l)) (strV l (ordZ l)) e k by omega]
      exact h3
/-- P27.5: equal elements have widths that differ by at most 1. -/
theorem equal_law {l : List Gl} (hv : VG l) {a s q d : Int} (h : ∀ k, k < l.length → wdAt l k = a ∧ stAt l k = s ∧ shAt l k = q ∧ odAt l k = d) (e : Int) {j k : Nat} (hj : j < l.length) (hk : k < l.length) : -1 ≤ setV l e j - setV l e k ∧ setV l e j - setV l e k ≤ 1 := by
  obtain ⟨j1, j2, j3, j4⟩ := h j hj
  obtain ⟨k1, k2, k3, k4⟩ := h k hk
  by_cases he : e < 0
  · by_cases h0 : gS l e = 0
    · have hw : ∀ k, setV l e k = wdAt l k := fun k => by unfold setV; rw [if_pos he, if_pos h0]
      rw [hw, hw]; omega
    · have hp := gS_pos hv he h0
      have hw : ∀ k, setV l e k = wdAt l k - shareN (shAt l) (shrV l) (gS l e) k := fun k => by unfold setV; rw [if_pos he, if_neg h0]
      have h1 := share_equal (f := shAt l) (g := gS l e) hp.1 j
      have h2 := share_equal (f := shAt l) (g := gS l e) hp.1 k
      rw [j3] at h1
      rw [k3] at h2
      rw [hw, hw]; omega
  · by_cases ho : ordZ l < 0
    · have hw : ∀ k, setV l e k = wdAt l k := fun k => by unfold setV; rw [if_neg he, if_pos ho]
      rw [hw, hw]; omega
    · have hw : ∀ k, setV l e k = wdAt l k + shareN (stO l (ordZ l)) (strV l (ordZ l)) e k := fun k => by unfold setV; rw [if_neg he, if_neg ho]
      have h1 := share_equal (f := stO l (ordZ l)) (g := e) (str_pos hv ho) j
      have h2 := share_equal (f := stO l (ordZ l)) (g := e) (str_pos hv ho) k
      have e1 : stO l (ordZ l) j = stO l (ordZ l) k := by unfold stO; rw [j4, k4, j2, k2]
      rw [e1] at h1
      rw [hw, hw]; omega
/-- The width of element j has grown by b. -/
def ShiftP (l m : List Gl) (j : Nat) (b : Int) : Prop := m.length = l.length ∧ ∀ k, k < l.length → wdAt m k = wdAt l k + (if k = j then b else 0) ∧ stAt m k = stAt l k ∧ shAt m k = shAt l k ∧ odAt m k = odAt l k
theorem shift_str {l m : List Gl} {j : Nat} {b : Int} (h : ShiftP l m j b) (o : Int) {k : Nat} (hk : k ≤ l.length) : sumN (stO m o) k = sumN (stO l o) k :=
  sumN_congr _ (fun i hi => by obtain ⟨_, h2, _, h4⟩ := h.2 i (by omega); unfold stO; rw [h2, h4])
theorem shift_shr {l m : List Gl} {j : Nat} {b : Int} (h : ShiftP l m j b) {k : Nat} (hk : k ≤ l.length) : sumN (shAt m) k = sumN (shAt l) k :=
  sumN_congr _ (fun i hi => (h.2 i (by omega)).2.2.1)
theorem sum_one (j : Nat) (b : Int) : ∀ n, sumN (fun k => if k = j then b else 0) n = if j < n then b else 0
  | 0 => rfl
  | n + 1 => by
    have ih := sum_one j b n
    show sumN _ n + (if n = j then b else 0) = _
    rw [ih]
    by_cases e : n = j
    · subst e; rw [if_neg (by omega), if_pos rfl, if_pos (by omega)]; omega
    · rw [if_neg e]
      by_cases h : j < n
      · rw [if_pos h, if_pos (by omega)]; omega
      · rw [if_neg h, if_neg (by omega)]; omega
theorem shift_nat {l m : List Gl} {j : Nat} {b : Int} (h : ShiftP l m j b) (hj : j < l.length) : natV m = natV l + b := by
  unfold natV
  rw [h.1]
  have e1 : sumN (wdAt m) l.length = sumN (fun k => wdAt l k + (if k = j then b else 0)) l.length := sumN_congr _ (fun i hi => (h.2 i hi).1)
  rw [e1, sumN_add, sum_one, if_pos hj]
theorem shift_ord {l m : List Gl} {j : Nat} {b : Int} (h : ShiftP l m j b) (hv : VG l) (hm : VG m) : ordZ m = ordZ l := by
  have hs : ∀ o, strZ m o = strZ l o := fun o => by
    rw [strZ_ok hv, strZ_ok hm]
    unfold strV
    rw [h.1]
    exact shift_str h o (Nat.le_refl _)
  have : ∀ n, ordN m n = ordN l n := fun n => by
    induction n with
    | zero => rfl
    | succ n ih => unfold ordN; rw [hs, ih]
  exact this 4
/-- P27.6. -/
theorem shift_law {l m : List Gl} {j : Nat} {b : Int} (h : ShiftP l m j b) (hv : VG l) (hm : VG m) (e : Int) : restV m e = restV l e ∧ ∀ k, k < l.length → setV m e k = setV l e k + (if k = j then b else 0) := by
  have ho := shift_ord h hv hm
  have hr : shrV m = shrV l := by unfold shrV; rw [h.1]; exact shift_shr h (Nat.le_refl _)
  have hg : gS m e = gS l e := by unfold gS; rw [hr]
  refine ⟨by unfold restV; rw [hg, ho], fun k hk => ?_⟩
  have hw := (h.2 k hk).1
  have hT : strV m (ordZ l) = strV l (ordZ l) := by unfold strV; rw [h.1]; exact shift_str h _ (Nat.le_refl _)
  have c1 : shareN (shAt m) (shrV l) (gS l e) k = shareN (shAt l) (shrV l) (gS l e) k := by unfold shareN cumN; rw [shift_shr h (by omega), shift_shr h (by omega)]
  have c2 : shareN (stO m (ordZ l)) (strV l (ordZ l)) e k = shareN (stO l (ordZ l)) (strV l (ordZ l)) e k := by unfold shareN cumN; rw [shift_str h _ (by omega), shift_str h _ (by omega)]
  unfold setV
  rw [hg, hr, ho, hT, c1, c2, hw]
  split <;> split <;> omega
end Go.Proofs.Ytnhplbhjbpdcaaa
