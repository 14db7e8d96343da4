/- certificate's paragraph.demerits, and the reference's Line and Fits. -/
import Derived.Test.YtkamffjncndabaaBrkTails
namespace Go.Proofs.Ytkamffjncndabaa
open Go.RowKit
theorem dems_any (A : Option Addr) (c : Nat) (ps : List Pc) (wd ind i j : Int) (w : World) (h0 : 0 ≤ i) (hi : i < j) (hj : j ≤ (ps.length : Int)) (hv : validB ps = true) (hf : fitsB wd ind = true) (hP : Pcs w w.heap.size A ps) {r : Bool} (hr : gG ps wd ind i.toNat j.toNat = r) :
    Calls Try.prog 26 #[.agg #[.slice A ps.length c, .int .i64 wd, .int .i64 ind], .int .i64 i, .int .i64 j] w fun e w' =>
      e = .returned (.tuple #[.int .i64 (bif r then cC ps wd ind i.toNat j.toNat else 0), .bool r]) ∧ Below w.heap.size w w' := by
  have hff := fitsB_iff.1 hf
  have hwb := widAt_bound hf i.toNat
  have HB : Hid (Below w.heap.size w (w.alloc (.cells #[.slice A ps.length c, .int .i64 wd, .int .i64 ind] 54))) := (Below.refl _ _).alloc (Nat.le_refl _) _
  have HP := Lib.hid hP
  by_cases hp : 0 < i
  · have hw : widAt wd ind i.toNat = wd - ind := wid_more (by omega)
    have hr' : legV ps i.toNat j.toNat (wd - ind) = r := by rw [← hw]; exact hr
    have hc : cC ps wd ind i.toNat j.toNat = demV ps i.toNat j.toNat (wd - ind) := by unfold cC; rw [hw]
    rw [hc]
    rw [hw] at hwb
    have HL := fun X hX => Line_in A c ps i j (wd - ind) X h0 hi hj hwb.1 hwb.2 hv hX hr'
    have HLL := Lib.hid HL
    have h64 := (validB_iff.1 hv).1.2
    clear hw hc hr hr' hv hf HL hP
    cases r
    all_goals
      go_enter Try.func26, Try.ntmps26
      go_wp2_with fail
      refine (HLL.out _ (HP.out.next HB.out)).mono ?_
      rintro e w1 ⟨rfl, hb1⟩
      simp only [cond_true, cond_false]
      go_wp2
      go_ret2
      exact ⟨rfl, below_next HB.out hb1⟩
  · obtain rfl : i = 0 := by omega
    have hw : widAt wd ind (0 : Int).toNat = wd := wid_first (by simp)
    have hr' : legV ps (0 : Int).toNat j.toNat wd = r := by rw [← hw]; exact hr
    have hc : cC ps wd ind (0 : Int).toNat j.toNat = demV ps (0 : Int).toNat j.toNat wd := by unfold cC; rw [hw]
    rw [hc]
    rw [hw] at hwb
    have HL := fun X hX => Line_in A c ps 0 j wd X h0 hi hj hwb.1 hwb.2 hv hX hr'
    have HLL := Lib.hid HL
    have h64 := (validB_iff.1 hv).1.2
    clear hw hc hr hr' hv hf HL hP
    cases r
    all_goals
      go_enter Try.func26, Try.ntmps26
      go_wp2_with fail
      refine (HLL.out _ (HP.out.next HB.out)).mono ?_
      rintro e w1 ⟨rfl, hb1⟩
      simp only [cond_true, cond_false]
      go_wp2
      go_ret2
      exact ⟨rfl, below_next HB.out hb1⟩
theorem rline_any (A : Option Addr) (c : Nat) (ps : List Pc) (wd ind i j : Int) (w : World) (h0 : 0 ≤ i) (hi : i < j) (hj : j ≤ (ps.length : Int)) (hv : validB ps = true) (hf : fitsB wd ind = true) (hP : Pcs w w.heap.size A ps) {r : Bool} (hr : gG ps wd ind i.toNat j.toNat = r) :
    Calls Try.prog 27 #[.slice A ps.length c, .int .i64 wd, .int .i64 ind, .int .i64 i, .int .i64 j] w fun e w' =>
      e = .returned (.tuple #[.int .i64 (bif r then cC ps wd ind i.toNat j.toNat else 0), .bool r]) ∧ Below w.heap.size w w' := by
  have hff := fitsB_iff.1 hf
  have hwb := widAt_bound hf i.toNat
  have HP := Lib.hid hP
  have h64 := (validB_iff.1 hv).1.2
  have hm : ps.length ≤ lenMax := by unfold lenMax; omega
  by_cases hp : 0 < i
  · have hw : widAt wd ind i.toNat = wd - ind := wid_more (by omega)
    have hr' : legV ps i.toNat j.toNat (wd - ind) = r := by rw [← hw]; exact hr
    have hc : cC ps wd ind i.toNat j.toNat = demV ps i.toNat j.toNat (wd - ind) := by unfold cC; rw [hw]
    rw [hc]
    rw [hw] at hwb
    cases r
    · have HLL := Lib.hid (fun X hX => rLine_no A c ps i j (wd - ind) X hr' h0 hi hj hwb.1 hwb.2 hv hm hX)
      clear hw hc hr hr' hv hf hP
      go_enter Try.func27, Try.ntmps27
      go_wp2_with fail
      refine (HLL.out _ HP.out).mono ?_
      rintro e w1 ⟨rfl, hb1⟩
      go_wp2
      go_ret2
      exact ⟨rfl, hb1⟩
    · have HLL := Lib.hid (fun X hX => rLine_yes A c ps i j (wd - ind) X hr' h0 hi hj hwb.1 hwb.2 hv hm hX)
      clear hw hc hr hr' hv hf hP
      simp only [cond_true]
      go_enter Try.func27, Try.ntmps27
      go_wp2_with fail
      refine (HLL.out _ HP.out).mono ?_
      rintro e w1 ⟨rfl, hb1⟩
      go_wp2
      go_ret2
      exact ⟨rfl, hb1⟩
  · obtain rfl : i = 0 := by omega
    have hw : widAt wd ind (0 : Int).toNat = wd := wid_first (by simp)
    have hr' : legV ps (0 : Int).toNat j.toNat wd = r := by rw [← hw]; exact hr
    have hc : cC ps wd ind (0 : Int).toNat j.toNat = demV ps (0 : Int).toNat j.toNat wd := by unfold cC; rw [hw]
    rw [hc]
    rw [hw] at hwb
    cases r
    · have HLL := Lib.hid (fun X hX => rLine_no A c ps 0 j wd X hr' h0 hi hj hwb.1 hwb.2 hv hm hX)
      clear hw hc hr hr' hv hf hP
      go_enter Try.func27, Try.ntmps27
      go_wp2_with fail
      refine (HLL.out _ HP.out).mono ?_
      rintro e w1 ⟨rfl, hb1⟩
      go_wp2
      go_ret2
      exact ⟨rfl, hb1⟩
    · have HLL := Lib.hid (fun X hX => rLine_yes A c ps 0 j wd X hr' h0 hi hj hwb.1 hwb.2 hv hm hX)
      clear hw hc hr hr' hv hf hP
      simp only [cond_true]
      go_enter Try.func27, Try.ntmps27
      go_wp2_with fail
      refine (HLL.out _ HP.out).mono ?_
      rintro e w1 ⟨rfl, hb1⟩
      go_wp2
      go_ret2
      exact ⟨rfl, hb1⟩
theorem rfits_par {r : Bool} (A : Option Addr) (c : Nat) (ps : List Pc) (wd ind : Int) (w : World) (hr : parB ps wd ind = r) (hm : ps.length ≤ lenMax) (hP : Pcs w w.heap.size A ps) :
    Calls Try.prog 19 #[.slice A ps.length c, .int .i64 wd, .int .i64 ind] w fun e w' => e = .returned (.bool r) ∧ Below w.heap.size w w' := by
  have HM := Lib.hid hm
  have HP := Lib.hid hP
  clear hm hP
  cases hv : validB ps
  · have HV := Lib.hid hv
    have hR : r = false := by rw [← hr]; unfold parB; rw [hv]; rfl
    subst hR
    clear hv hr
    go_enter Try.func19, Try.ntmps19
    go_wp2_with fail
    refine (rvalid_at _ _ ps _ HV.out HM.out HP.out).mono ?_
    rintro e w1 ⟨rfl, hb1⟩
    go_wp2
    go_ret
    exact ⟨rfl, hb1⟩
  · have HV := Lib.hid hv
    have hR : fitsB wd ind = r := by rw [← hr]; unfold parB; rw [hv]; rfl
    have HR := Lib.hid hR
    clear hv hr hR
    go_enter Try.func19, Try.ntmps19
    go_wp2_with fail
    refine (rvalid_at _ _ ps _ HV.out HM.out HP.out).mono ?_
    rintro e w1 ⟨rfl, hb1⟩
    go_wp2_with fail
    refine (rfits_at _ _ _ HR.out).mono ?_
    rintro e w2 ⟨rfl, hb2⟩
    go_wp2
    go_ret
    exact ⟨rfl, below_next hb1 hb2⟩
end Go.Proofs.Ytkamffjncndabaa
