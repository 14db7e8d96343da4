/- The walk of GlueExact. -/
import Derived.Test.YtnhplbhjbpdcaaaLawMeas
namespace Go.Proofs.Ytnhplbhjbpdcaaa
open Go.RowKit
/-- What Set answers for a list and a width that are valid. -/
theorem gset_ok {f : Nat → Int} {r : Int} {n : Nat} (A : Option Addr) (c : Nat) (l : List Gl) (wd : Int) (w : World) (hv : VG l) (hw : rngW wd) (hf : setV l (wd - natV l) = f) (hr : restV l (wd - natV l) = r) (hn : l.length = n) (hP : Gls w w.heap.size A l) :
    Calls Try.prog 20 #[.slice A n c, .int .i64 wd] w fun e w' => (∃ A' c', e = .returned (.tuple #[.slice A' n c', .int .i64 r, .int .i64 0]) ∧ Ints w' w'.heap.size A' (mapN f n)) ∧ Below w.heap.size w w' := by
  subst hn
  rw [← hf, ← hr]
  obtain ⟨h1, h2, h3⟩ := setAns_ok ⟨hv, hw⟩
  rw [← h2, ← h3, ← h1]
  exact gset_at A c l wd w rfl rfl rfl (by rw [h1]; exact mapN_len _ _) (by have := hv.1; unfold lenMax; omega) hP
theorem setV_in {l : List Gl} (hv : VG l) {e : Int} (h0 : -1283457024 ≤ e) (h1 : e ≤ 1283457024) {k : Nat} (hk : k < l.length) : -2148532223 ≤ setV l e k ∧ setV l e k ≤ 2148532223 := by
  have ho := hv.2 k hk
  unfold okG at ho
  unfold setV
  by_cases he : e < 0
  · rw [if_pos he]
    by_cases hg : gS l e = 0
    · rw [if_pos hg]; omega
    · rw [if_neg hg]
      have h2 := gS_in hv he
      have := share_in (f := shAt l) (n := l.length) (T := shrV l) (g := gS l e) (fun k hk => by have := hv.2 k hk; unfold okG at this; omega) rfl (by omega) h2.1 (by omega) hk
      omega
  · rw [if_neg he]
    by_cases ho2 : ordZ l < 0
    · rw [if_pos ho2]; omega
    · rw [if_neg ho2]
      have := share_in (f := stO l (ordZ l)) (n := l.length) (T := strV l (ordZ l)) (g := e) (fun k hk => stO_range hv _ hk) rfl (str_pos hv ho2) (by omega) (by omega) hk
      omega
theorem restV_in {l : List Gl} (hv : VG l) {e : Int} (h0 : -1283457024 ≤ e) (h1 : e ≤ 1283457024) : -1283457024 ≤ restV l e ∧ restV l e ≤ 1283457024 := by
  unfold restV
  by_cases he : e < 0
  · rw [if_pos he]
    have := gS_in hv he
    omega
  · rw [if_neg he]
    split <;> omega
set_option maxHeartbeats 1000000 in
theorem glueExact_walk (A : Option Addr) (c : Nat) (l : List Gl) (wd : Int) (w : World) (hm : l.length ≤ lenMax) (hP : Gls w w.heap.size A l) :
    Calls Try.prog 6 #[.slice A l.length c, .int .i64 wd] w fun e w' => e = .returned (.bool true) ∧ Below w.heap.size w w' := by
  have HM := Lib.hid hm
  have HP := Lib.hid hP
  clear hm hP
  by_cases hok : VG l ∧ rngW wd
  · obtain ⟨hv, hw⟩ := hok
    have hl := hv.1
    have hei := e_in hv hw
    obtain ⟨f, hf⟩ : ∃ f, setV l (wd - natV l) = f := ⟨_, rfl⟩
    obtain ⟨r, hr⟩ : ∃ r, restV l (wd - natV l) = r := ⟨_, rfl⟩
    have hrb := restV_in hv hei.1 hei.2
    rw [hr] at hrb
    have hfb : ∀ k, k < l.length → -2148532223 ≤ f k ∧ f k ≤ 2148532223 := fun k hk => by rw [← hf]; exact setV_in hv hei.1 hei.2 hk
    have hsum : r + sumN f l.length = wd := by
      have := exact_sum hv (wd - natV l)
      rw [hf, hr] at this
      omega
    have hres : r < 0 → ∀ k, k < l.length → f k = wdAt l k - shAt l k := fun h k hk => by
      rw [← hf]
      exact exact_rest hv (by rw [hr]; exact h) hk
    have hlast : r ≤ 0 ∨ ordZ l < 0 := by
      have := exact_pos hv (wd - natV l)
      rwa [hr] at this
    have HV := Lib.hid hv
    have HR := Lib.hid (And.intro hf (And.intro hr hw))
    have HFB := Lib.hid hfb
    have HSUM := Lib.hid hsum
    have HRES := Lib.hid hres
    have HLAST := Lib.hid hlast
    obtain ⟨o, ho⟩ : ∃ o, ordZ l = o := ⟨_, rfl⟩
    rw [ho] at hlast
    have HO := Lib.hid ho
    have hr1 := hrb.1
    have hr2 := hrb.2
    clear hei hf hr hfb hsum hres ho hv hw hrb
    have HRT : Hid (VG l ∧ rngW wd) := ⟨HV.out, HR.out.2.2⟩
    go_enter Try.func6, Try.ntmps6
    go_wp2_with fail
    refine (gawake_any _).mono ?_
    rintro e w1 ⟨rfl, hb1⟩
    have HB1 := Lib.hid hb1
    clear hb1
    go_wp2_with fail
    refine (right_any (r := true) _ _ l _ _ (yes_iff HRT.out) HM.out (HP.out.next HB1.out)).mono ?_
    rintro e w2 ⟨rfl, hb2⟩
    have HB2 := Lib.hid (below_next HB1.out hb2)
    clear hb2 HB1
    go_wp2_with fail
    refine (gset_ok _ _ l _ _ HV.out HR.out.2.2 HR.out.1 HR.out.2.1 rfl (HP.out.next HB2.out)).mono ?_
    rintro e w3 ⟨⟨A3, c3, rfl, hI3⟩, hb3⟩
    have HI3 := Lib.hid hI3
    have HB3 := Lib.hid (below_next HB2.out hb3)
    clear hb3 HB2 hI3
    go_wp2_with fail
    go_loopw [8, 9] (fun s q wr => ∃ k : Nat, k ≤ l.length ∧ q = .int .i64 (k : Int) ∧ s = .int .i64 (r + sumN f k) ∧ Below w3.heap.size w3 wr) (fun _ q _ => l.length - (intOf q).toNat)
    case atStart => exact ⟨0, Nat.zero_le _, rfl, by simp [sumN], Below.refl _ _⟩
    case round =>
      obtain ⟨k, hk, rfl, rfl, hbw⟩ := hrel
      have HBW := Lib.hid hbw
      clear hbw
      by_cases hlt : k < l.length
      · obtain ⟨b, off, rfl, hB, hc⟩ := HI3.out (by rw [mapN_len]; omega)
        have d0 := (HBW.out.cell (p := ⟨b, off + k, none⟩) hB).trans (hc k (by rw [mapN_len]; exact hlt))
        rw [mapN_at f hlt] at d0
        obtain ⟨bA, oA, rfl, hBA, hcA⟩ := HP.out (by omega)
        have HW := below_next HB3.out HBW.out
        obtain ⟨c0, _, c2, _⟩ := hcA k hlt
        replace c0 := (HW.cell (p := ⟨bA, oA + k * 4, none⟩) hBA).trans c0
        replace c2 := (HW.cell (p := ⟨bA, oA + k * 4 + 2, none⟩) hBA).trans c2
        have hres := fun h => HRES.out h k hlt
        have hsb := sumN_bound (f := f) (M := 2148532223) (k + 1) (fun j hj => HFB.out j (by omega))
        have hsb0 := sumN_bound (f := f) (M := 2148532223) k (fun j hj => HFB.out j (by omega))
        have hsn : sumN f (k + 1) = sumN f k + f k := rfl
        have hok := HV.out.2 k hlt
        unfold okG at hok
        obtain ⟨s, hs⟩ : ∃ s, sumN f k = s := ⟨_, rfl⟩
        obtain ⟨y, hy⟩ : ∃ y, f k = y := ⟨_, rfl⟩
        obtain ⟨a, ha⟩ : ∃ a, wdAt l k = a := ⟨_, rfl⟩
        obtain ⟨q, hq⟩ : ∃ q, shAt l k = q := ⟨_, rfl⟩
        rw [hs, hy] at hsn
        rw [hsn] at hsb
        rw [hs] at hsb0 ⊢
        rw [hy] at d0 hres
        rw [ha] at c0 hok hres
        rw [hq] at c2 hok hres
        have s1 : IntKind.i64.wrap (r + s + y) = r + (s + y) := by rw [IntWalk.i64_in _ (by omega)]; omega
        have s2 : IntKind.i64.wrap (a - q) = a - q := IntWalk.i64_in _ (by omega)
        have HSN := Lib.hid hsn
        clear hsn hsb hsb0 hs hy ha hq hc hcA hok HW
        by_cases hneg : r < 0
        · have hyq := hres hneg
          have HYQ := Lib.hid hyq
          have hd : decide (r < 0) = true := decide_eq_true hneg
          have hn1 : (y != a - q) = false := by simp [hyq]
          have hn2 : decide (y = a - q) = true := decide_eq_true hyq
          have hn3 : ¬ (y ≠ a - q) := fun h => h hyq
          clear hres hyq
          go_wp2_with fail
          go_quiet (fail)
          go_wp2_with fail
          go_roundw
          case rel => exact ⟨k + 1, by omega, by go_num, by rw [HSN.out], below_drewN HBW.out nq⟩
          case measure => simp [intOf]; omega
        · have hd : decide (r < 0) = false := decide_eq_false hneg
          clear hres
          go_wp2_with fail
          go_quiet (fail)
          go_wp2_with fail
          go_roundw
          case rel => exact ⟨k + 1, by omega, by go_num, by rw [HSN.out], below_drewN HBW.out nq⟩
          case measure => simp [intOf]; omega
      · obtain rfl : k = l.length := by omega
        rw [HSUM.out]
        rcases HLAST.out with h1 | h1
        · have hd : decide (r ≤ 0) = true := decide_eq_true h1
          go_wp2
          go_ret
          exact ⟨rfl, below_next HB3.out HBW.out⟩
        · by_cases h2 : r ≤ 0
          · have hd : decide (r ≤ 0) = true := decide_eq_true h2
            go_wp2
            go_ret
            exact ⟨rfl, below_next HB3.out HBW.out⟩
          · have hd : decide (r ≤ 0) = false := decide_eq_false h2
            rw [HO.out] at h1
            go_wp2_with fail
            refine (rord_any _ _ l _ HO.out HM.out (HP.out.next (below_next HB3.out HBW.out))).mono ?_
            rintro e w4 ⟨rfl, hb4⟩
            go_wp2
            go_ret
            exact ⟨by simp [h1], below_next (below_next HB3.out HBW.out) hb4⟩
  · have HRT : Hid (¬ (VG l ∧ rngW wd)) := hok
    go_enter Try.func6, Try.ntmps6
    go_wp2_with fail
    refine (gawake_any _).mono ?_
    rintro e w1 ⟨rfl, hb1⟩
    have HB1 := Lib.hid hb1
    clear hb1
    go_wp2_with fail
    refine (right_any (r := false) _ _ l _ _ (no_iff HRT.out) HM.out (HP.out.next HB1.out)).mono ?_
    rintro e w2 ⟨rfl, hb2⟩
    go_wp2
    go_ret
    exact ⟨rfl, below_next HB1.out hb2⟩
end Go.Proofs.Ytnhplbhjbpdcaaa
