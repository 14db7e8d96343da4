/- The walk of GluePlaces. -/
import Derived.Test.YtnhplbhjbpdcaaaLawExact
namespace Go.Proofs.Ytnhplbhjbpdcaaa
open Go.RowKit
set_option maxHeartbeats 1000000 in
theorem gluePlaces_walk (A : Option Addr) (c : Nat) (l : List Gl) (wd by_ : Int) (w : World) (hm : l.length ≤ lenMax) (hP : Gls w w.heap.size A l) (hby0 : 0 ≤ by_) (hby1 : by_ ≤ 65535) :
    Calls Try.prog 8 #[.slice A l.length c, .int .i64 wd, .int .u16 by_] w fun e w' => e = .returned (.bool true) ∧ Below w.heap.size w w' := by
  have HM := Lib.hid hm
  have HP := Lib.hid hP
  clear hm hP
  by_cases hok : VG l ∧ rngW wd
  · obtain ⟨hv, hw⟩ := hok
    have HRT : Hid (VG l ∧ rngW wd) := ⟨hv, hw⟩
    by_cases hbig : 536870912 < wd
    · go_enter Try.func8, Try.ntmps8
      go_wp2_with fail
      refine (gawake_any _).mono ?_
      rintro e w1 ⟨rfl, hb1⟩
      have HB1 := Lib.hid hb1
      clear hb1
      go_wp2_with fail
      refine (right_any (r := true) _ _ l _ _ (yes_iff HRT.out) HM.out (HP.out.next HB1.out)).mono ?_
      rintro e w2 ⟨rfl, hb2⟩
      go_wp2
      go_ret
      exact ⟨rfl, below_next HB1.out hb2⟩
    · have hl := hv.1
      have hw2 : rngW (wd + by_) := ⟨by have := hw.1; omega, by omega⟩
      have hei := e_in hv hw
      have hei2 := e_in hv hw2
      obtain ⟨f, hf⟩ : ∃ f, setV l (wd - natV l) = f := ⟨_, rfl⟩
      obtain ⟨r, hr⟩ : ∃ r, restV l (wd - natV l) = r := ⟨_, rfl⟩
      obtain ⟨f', hf'⟩ : ∃ f', setV l (wd + by_ - natV l) = f' := ⟨_, rfl⟩
      obtain ⟨r', hr'⟩ : ∃ r', restV l (wd + by_ - natV l) = r' := ⟨_, rfl⟩
      have hfb : ∀ k, k < l.length → -2148532223 ≤ f k ∧ f k ≤ 2148532223 := fun k hk => by rw [← hf]; exact setV_in hv hei.1 hei.2 hk
      have hfb' : ∀ k, k < l.length → -2148532223 ≤ f' k ∧ f' k ≤ 2148532223 := fun k hk => by rw [← hf']; exact setV_in hv hei2.1 hei2.2 hk
      have hle : ∀ k, k ≤ l.length → sumN f k ≤ sumN f' k := fun k hk => by rw [← hf, ← hf']; exact places_law hv (by omega) hk
      have s0 : IntKind.i64.wrap (wd + by_) = wd + by_ := IntWalk.i64_in _ (by have := hw.1; omega)
      have HV := Lib.hid hv
      have HR := Lib.hid (And.intro hf (And.intro hr hw))
      have HR' := Lib.hid (And.intro hf' (And.intro hr' hw2))
      have HFB := Lib.hid (And.intro hfb (And.intro hfb' hle))
      clear hei hei2 hf hr hf' hr' hfb hfb' hle hv hw hw2
      go_enter Try.func8, Try.ntmps8
      go_wp2_with fail
      refine (gawake_any _).mono ?_
      rintro e w1 ⟨rfl, hb1⟩
      have HB1 := Lib.hid hb1
      clear hb1
      go_wp2_with fail
      refine (right_any (r := true) _ _ l _ _ (yes_iff HRT.out) HM.out (HP.out.next HB1.out)).mono ?_
      rintro e w2 ⟨rfl, hb2⟩
      have HB2 := Lib.hid (below_next HB1.out hb2)
      clear hb2 HB1
      go_wp2_with fail
      refine (gset_ok _ _ l _ _ HV.out HR.out.2.2 HR.out.1 HR.out.2.1 rfl (HP.out.next HB2.out)).mono ?_
      rintro e w3 ⟨⟨A3, c3, rfl, hI3⟩, hb3⟩
      have HI3 := Lib.hid hI3
      have HB3 := Lib.hid (below_next HB2.out hb3)
      clear hb3 HB2 hI3
      go_wp2_with fail
      refine (gset_ok _ _ l _ _ HV.out HR'.out.2.2 HR'.out.1 HR'.out.2.1 rfl (HP.out.next HB3.out)).mono ?_
      rintro e w4 ⟨⟨A4, c4, rfl, hI4⟩, hb4⟩
      have HI4 := Lib.hid hI4
      have HJ3 : Hid (Ints w4 w4.heap.size A3 (mapN f l.length)) := HI3.out.next hb4
      have HB4 := Lib.hid (below_next HB3.out hb4)
      clear hb4 HB3 hI4
      go_wp2_with fail
      go_loopw [13, 14, 15] (fun s t q wr => ∃ k : Nat, k ≤ l.length ∧ q = .int .i64 (k : Int) ∧ s = .int .i64 (sumN f k) ∧ t = .int .i64 (sumN f' k) ∧ Below w4.heap.size w4 wr) (fun _ _ q _ => l.length - (intOf q).toNat)
      case atStart => exact ⟨0, Nat.zero_le _, rfl, rfl, rfl, Below.refl _ _⟩
      case round =>
        obtain ⟨k, hk, rfl, rfl, rfl, hbw⟩ := hrel
        have HBW := Lib.hid hbw
        clear hbw
        by_cases hlt : k < l.length
        · obtain ⟨b, off, rfl, hB, hc⟩ := HJ3.out (by rw [mapN_len]; omega)
          have d0 := (HBW.out.cell (p := ⟨b, off + k, none⟩) hB).trans (hc k (by rw [mapN_len]; exact hlt))
          rw [mapN_at f hlt] at d0
          obtain ⟨b', off', rfl, hB', hc'⟩ := HI4.out (by rw [mapN_len]; omega)
          have d1 := (HBW.out.cell (p := ⟨b', off' + k, none⟩) hB').trans (hc' k (by rw [mapN_len]; exact hlt))
          rw [mapN_at f' hlt] at d1
          have hsb := sumN_bound (f := f) (M := 2148532223) (k + 1) (fun j hj => HFB.out.1 j (by omega))
          have hsb' := sumN_bound (f := f') (M := 2148532223) (k + 1) (fun j hj => HFB.out.2.1 j (by omega))
          have hsl := HFB.out.2.2 (k + 1) (by omega)
          have hsn : sumN f (k + 1) = sumN f k + f k := rfl
          have hsn' : sumN f' (k + 1) = sumN f' k + f' k := rfl
          obtain ⟨s, hs⟩ : ∃ s, sumN f k = s := ⟨_, rfl⟩
          obtain ⟨y, hy⟩ : ∃ y, f k = y := ⟨_, rfl⟩
          obtain ⟨s', hs'⟩ : ∃ s', sumN f' k = s' := ⟨_, rfl⟩
          obtain ⟨y', hy'⟩ : ∃ y', f' k = y' := ⟨_, rfl⟩
          rw [hs, hy] at hsn
          rw [hs', hy'] at hsn'
          rw [hsn] at hsb hsl
          rw [hsn'] at hsb' hsl
          rw [hs, hs']
          rw [hy] at d0
          rw [hy'] at d1
          have s1 : IntKind.i64.wrap (s + y) = s + y := IntWalk.i64_in _ (by omega)
          have s2 : IntKind.i64.wrap (s' + y') = s' + y' := IntWalk.i64_in _ (by omega)
          have hd : ¬ (s' + y' < s + y) := by omega
          have HSN := Lib.hid (And.intro hsn hsn')
          clear hsn hsn' hsb hsb' hsl hs hy hs' hy' hc hc'
          go_wp2_with fail
          go_roundw
          case rel => exact ⟨k + 1, by omega, by go_num, by rw [HSN.out.1], by rw [HSN.out.2], HBW.out⟩
          case measure => simp [intOf]; omega
        · obtain rfl : k = l.length := by omega
          go_wp2
          go_ret
          exact ⟨rfl, below_next HB4.out HBW.out⟩
  · have HRT : Hid (¬ (VG l ∧ rngW wd)) := hok
    go_enter Try.func8, Try.ntmps8
    go_wp2_with fail
    refine (gawake_any _).mono ?_
    rintro e w1 ⟨rfl, hb1⟩
    have HB1 := Lib.hid hb1
    clear hb1
    go_wp2_with fail
    refine (right_any (r := false) _ _ l _ _ (no_iff HRT.out) HM.out (HP.out.next HB1.out)).mono ?_
    rintro e w2 ⟨rfl, hb2⟩
    go_wp2
    go_ret
    exact ⟨rfl, below_next HB1.out hb2⟩
end Go.Proofs.Ytnhplbhjbpdcaaa
