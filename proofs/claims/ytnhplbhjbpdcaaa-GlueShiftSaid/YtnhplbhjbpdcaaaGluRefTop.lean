/- The reference's check and Set. -/
import Derived.Test.YtnhplbhjbpdcaaaGluRefShr
namespace Go.Proofs.Ytnhplbhjbpdcaaa
open Go.RowKit
def rngW (wd : Int) : Prop := -1073741824 ≤ wd ∧ wd ≤ 1073741824
instance (wd : Int) : Decidable (rngW wd) := by unfold rngW; infer_instance
/-- The error of a list and a width. -/
def errV (l : List Gl) (wd : Int) : Int := if VG l then (if rngW wd then 0 else 2) else 1
theorem err_cases (l : List Gl) (wd : Int) : (VG l ∧ rngW wd ∧ errV l wd = 0) ∨ (VG l ∧ ¬ rngW wd ∧ errV l wd = 2) ∨ (¬ VG l ∧ errV l wd = 1) := by
  unfold errV
  by_cases h : VG l
  · rw [if_pos h]
    by_cases h2 : rngW wd
    · rw [if_pos h2]; exact .inl ⟨h, h2, rfl⟩
    · rw [if_neg h2]; exact .inr (.inl ⟨h, h2, rfl⟩)
  · rw [if_neg h]; exact .inr (.inr ⟨h, rfl⟩)
theorem not_rng {wd : Int} (h : ¬ rngW wd) : wd < -1073741824 ∨ (-1073741824 ≤ wd ∧ 1073741824 < wd) := by unfold rngW at h; omega
theorem rcheck_any {x : Int} (A : Option Addr) (c : Nat) (l : List Gl) (wd : Int) (w : World) (hx : errV l wd = x) (hm : l.length ≤ lenMax) (hP : Gls w w.heap.size A l) :
    Calls Try.prog 32 #[.slice A l.length c, .int .i64 wd] w fun e w' => e = .returned (.int .i64 x) ∧ Below w.heap.size w w' := by
  have HM := Lib.hid hm
  have HP := Lib.hid hP
  clear hm hP
  rcases err_cases l wd with ⟨hv, hr, e⟩ | ⟨hv, hr, e⟩ | ⟨hv, e⟩
  · have HV := Lib.hid hv
    rw [e] at hx
    subst hx
    obtain ⟨h1, h2⟩ := hr
    clear hv e
    go_enter Try.func32, Try.ntmps32
    go_wp2_with fail
    refine (rvalidg_any (r := true) _ _ l _ HM.out HP.out (yes_iff HV.out)).mono ?_
    rintro e w1 ⟨rfl, hb1⟩
    go_wp2
    go_ret
    exact ⟨rfl, hb1⟩
  · have HV := Lib.hid hv
    rw [e] at hx
    subst hx
    have hr' := not_rng hr
    clear hv e hr
    rcases hr' with h1 | ⟨h1, h2⟩
    all_goals
      go_enter Try.func32, Try.ntmps32
      go_wp2_with fail
      refine (rvalidg_any (r := true) _ _ l _ HM.out HP.out (yes_iff HV.out)).mono ?_
      rintro e w1 ⟨rfl, hb1⟩
      go_wp2
      go_ret
      exact ⟨rfl, hb1⟩
  · have HV := Lib.hid hv
    rw [e] at hx
    subst hx
    clear hv e
    go_enter Try.func32, Try.ntmps32
    go_wp2_with fail
    refine (rvalidg_any (r := false) _ _ l _ HM.out HP.out (no_iff HV.out)).mono ?_
    rintro e w1 ⟨rfl, hb1⟩
    go_wp2
    go_ret
    exact ⟨rfl, hb1⟩
/-- What Set answers. -/
def setL (l : List Gl) (wd : Int) : List Int := if VG l ∧ rngW wd then mapN (setV l (wd - natV l)) l.length else []
def setR (l : List Gl) (wd : Int) : Int := if VG l ∧ rngW wd then restV l (wd - natV l) else 0
def SetAns (l : List Gl) (wd : Int) (w : World) (e : Ending) (w' : World) : Prop :=
  (∃ A' c', e = .returned (.tuple #[.slice A' (setL l wd).length c', .int .i64 (setR l wd), .int .i64 (errV l wd)]) ∧ Ints w' w'.heap.size A' (setL l wd)) ∧ Below w.heap.size w w'
theorem setAns_no {l : List Gl} {wd : Int} (h : ¬ (VG l ∧ rngW wd)) : setL l wd = [] ∧ setR l wd = 0 := ⟨if_neg h, if_neg h⟩
theorem setAns_ok {l : List Gl} {wd : Int} (h : VG l ∧ rngW wd) : setL l wd = mapN (setV l (wd - natV l)) l.length ∧ setR l wd = restV l (wd - natV l) ∧ errV l wd = 0 := ⟨if_pos h, if_pos h, by unfold errV; rw [if_pos h.1, if_pos h.2]⟩
theorem e_in {l : List Gl} {wd : Int} (hv : VG l) (hr : rngW wd) : -1283457024 ≤ wd - natV l ∧ wd - natV l ≤ 1283457024 := by
  have := nat_bound hv (Nat.le_refl _)
  unfold rngW at hr
  unfold natV
  omega
set_option maxHeartbeats 1000000 in
theorem rset_any (A : Option Addr) (c : Nat) (l : List Gl) (wd : Int) (w : World) (hm : l.length ≤ lenMax) (hP : Gls w w.heap.size A l) :
    Calls Try.prog 21 #[.slice A l.length c, .int .i64 wd] w (SetAns l wd w) := by
  have HM := Lib.hid hm
  have HP := Lib.hid hP
  clear hm hP
  by_cases hok : VG l ∧ rngW wd
  · obtain ⟨hL, hR, hE⟩ := setAns_ok hok
    unfold SetAns
    rw [hL, hR, hE, mapN_len]
    have hei := e_in hok.1 hok.2
    have HN : Hid (natZ l = natV l) := natZ_ok hok.1
    have HV := Lib.hid hok.1
    have HE := Lib.hid hE
    obtain ⟨n, hn⟩ : ∃ n, natV l = n := ⟨_, rfl⟩
    rw [hn] at hei HN ⊢
    have he1 := hei.1
    have he2 := hei.2
    have s0 : IntKind.i64.wrap (wd - n) = wd - n := IntWalk.i64_in _ (by omega)
    clear hL hR hE hok hn hei
    obtain ⟨e, he⟩ : ∃ e, wd - n = e := ⟨_, rfl⟩
    have s1 : IntKind.i64.wrap (wd - n) = e := s0.trans he
    rw [he] at he1 he2 ⊢
    clear he s0
    by_cases hneg : e < 0
    · obtain ⟨E, rfl⟩ : ∃ E, e = -E := ⟨-e, by omega⟩
      have s2 : IntKind.i64.wrap E = E := IntWalk.i64_in _ (by omega)
      have s3 : -(-E) = E := by omega
      go_enter Try.func21, Try.ntmps21
      go_wp2_with fail
      refine (rcheck_any _ _ l _ _ HE.out HM.out HP.out).mono ?_
      rintro e w1 ⟨rfl, hb1⟩
      have HB1 := Lib.hid hb1
      clear hb1
      go_wp2_with fail
      refine (rnat_any _ _ l _ HN.out HM.out (HP.out.next HB1.out)).mono ?_
      rintro e w2 ⟨rfl, hb2⟩
      have HB2 := Lib.hid (below_next HB1.out hb2)
      clear hb2
      go_wp2_with fail
      refine (rshrunk_any _ _ l E _ HV.out (by omega) (by omega) rfl rfl (HP.out.next HB2.out)).mono ?_
      rintro e w3 ⟨⟨A3, c3, rfl, hI3⟩, hb3⟩
      go_wp2
      go_ret3
      exact ⟨⟨A3, c3, rfl, hI3⟩, below_next HB2.out hb3⟩
    · go_enter Try.func21, Try.ntmps21
      go_wp2_with fail
      refine (rcheck_any _ _ l _ _ HE.out HM.out HP.out).mono ?_
      rintro e w1 ⟨rfl, hb1⟩
      have HB1 := Lib.hid hb1
      clear hb1
      go_wp2_with fail
      refine (rnat_any _ _ l _ HN.out HM.out (HP.out.next HB1.out)).mono ?_
      rintro e w2 ⟨rfl, hb2⟩
      have HB2 := Lib.hid (below_next HB1.out hb2)
      clear hb2
      go_wp2_with fail
      refine (rstretched_any _ _ l e _ HV.out (by omega) (by omega) rfl (HP.out.next HB2.out)).mono ?_
      rintro e w3 ⟨⟨A3, c3, rfl, hI3⟩, hb3⟩
      go_wp2
      go_ret3
      exact ⟨⟨A3, c3, rfl, hI3⟩, below_next HB2.out hb3⟩
  · obtain ⟨hL, hR⟩ := setAns_no hok
    unfold SetAns
    rw [hL, hR]
    obtain ⟨x, hx⟩ : ∃ x, errV l wd = x := ⟨_, rfl⟩
    have hx0 : ¬ x = 0 := by
      rw [← hx]
      rcases err_cases l wd with ⟨h1, h2, _⟩ | ⟨_, _, h⟩ | ⟨_, h⟩
      · exact absurd ⟨h1, h2⟩ hok
      · rw [h]; decide
      · rw [h]; decide
    have b1 : (x == 0) = false := beq_eq_false_iff_ne.2 hx0
    have b2 : (x != 0) = true := by rw [bne_iff_ne]; exact hx0
    rw [hx]
    have HX := Lib.hid hx
    clear hL hR hok hx
    go_enter Try.func21, Try.ntmps21
    go_wp2_with fail
    refine (rcheck_any _ _ l _ _ HX.out HM.out HP.out).mono ?_
    rintro e w1 ⟨rfl, hb1⟩
    go_wp2
    go_ret3
    exact ⟨⟨none, 0, rfl, fun h => absurd h (by simp)⟩, hb1⟩
end Go.Proofs.Ytnhplbhjbpdcaaa
