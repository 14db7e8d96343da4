/- The walk of DemeritBounds. -/
import Derived.Test.YtdmcddhepgodhaaLawJoined
namespace Go.Proofs.Ytdmcddhepgodhaa
open Go.RowKit
theorem fits0 {w : Int} : fitsB w 0 = true ↔ 1 ≤ w ∧ w ≤ 10000000 := by
  unfold fitsB
  simp only [Bool.and_eq_true, decide_eq_true_eq]
  omega
set_option maxHeartbeats 4000000 in
theorem demeritBounds_walk (A : Option Addr) (c : Nat) (ps : List Pc) (i j wd ind : Int) (w : World) (hm : ps.length ≤ lenMax) (hP : Pcs w w.heap.size A ps) :
    Calls Try.prog 5 #[.slice A ps.length c, .agg #[.int .i64 i, .int .i64 j, .int .i64 wd, .int .i64 ind]] w fun e w' => e = .returned (.bool true) ∧ Below w.heap.size w w' := by
  have hm' : ps.length ≤ 9223372036854775807 := hm
  have HM := Lib.hid hm
  have HP := Lib.hid hP
  clear hm hP
  have HB : Hid (Below w.heap.size w (w.alloc (.cells #[.int .i64 i, .int .i64 j, .int .i64 wd, .int .i64 ind] 24))) := (Below.refl _ _).alloc (Nat.le_refl _) _
  cases hv : validB ps
  · have HV := Lib.hid hv
    clear hv
    go_enter Try.func5, Try.ntmps5
    go_wp2_with fail
    refine (awake_any _).mono ?_
    rintro e w1 ⟨rfl, hb1⟩
    go_wp2_with fail
    refine (rvalid_at _ _ ps _ HV.out HM.out (HP.out.next (below_next HB.out hb1))).mono ?_
    rintro e w2 ⟨rfl, hb2⟩
    go_wp2
    go_ret
    exact ⟨rfl, below_next HB.out (below_next hb1 hb2)⟩
  · have HV := Lib.hid hv
    clear hv
    have h64 := (validB_iff.1 HV.out).1.2
    cases hf : fitsB wd 0
    · have HF := Lib.hid hf
      clear hf
      go_enter Try.func5, Try.ntmps5
      go_wp2_with fail
      refine (awake_any _).mono ?_
      rintro e w1 ⟨rfl, hb1⟩
      go_wp2_with fail
      refine (rvalid_at _ _ ps _ HV.out HM.out (HP.out.next (below_next HB.out hb1))).mono ?_
      rintro e w2 ⟨rfl, hb2'⟩
      have hb2 := below_next hb1 hb2'
      have f2 := kept_box hb2 2 _ rfl
      go_wp2_with fail
      refine (rfits_at _ _ _ HF.out).mono ?_
      rintro e w3 ⟨rfl, hb3⟩
      go_wp2
      go_ret
      exact ⟨rfl, below_next HB.out (below_next hb2 hb3)⟩
    · have HF := Lib.hid hf
      obtain ⟨q1, q2⟩ := fits0.1 hf
      clear hf
      have hmain : ∃ n e m f, lenN ps i j = n ∧ lenE ps i j = e ∧ lineN ps i j wd = m ∧ lineE ps i j wd = f ∧
          ((e = 2 ∧ f = 2) ∨ (e = 0 ∧ 0 ≤ i ∧ i < j ∧ j ≤ 64 ∧ ((wd < n ∧ 1 < j - i ∧ f = 6) ∨ (f = 0 ∧ m ≤ 1000000000 ∧ -1000000000 ≤ m ∧ (n ≤ wd ∨ (wd < n ∧ ¬ 1 < j - i)))))) := by
        refine ⟨_, _, _, _, rfl, rfl, rfl, rfl, ?_⟩
        rcases lenE_cases ps i j with ⟨h, _⟩ | ⟨_, ⟨hr, e1, e2⟩ | ⟨r1, r2, r3, e1, e2⟩⟩
        · rw [HV.out] at h; cases h
        · left
          rcases lineE_cases ps i j wd with ⟨h, _⟩ | ⟨_, ⟨h, _⟩ | ⟨_, _, ⟨_, g1, g2⟩ | ⟨_, _, _, _⟩⟩⟩
          · rw [HV.out] at h; cases h
          · omega
          · exact ⟨e1, g1⟩
          · omega
        · right
          refine ⟨e1, r1, r2, by omega, ?_⟩
          rw [e2]
          rcases lineE_in HV.out r1 r2 r3 q1 q2 with ⟨hl, g1, g2⟩ | ⟨hl, g1, g2⟩
          · right
            have hd := demV_bound HV.out (i := i.toNat) (j := j.toNat) (by omega) (by omega) q1 q2
            refine ⟨g1, by omega, by omega, ?_⟩
            rcases legV_cases ps (i := i.toNat) (j := j.toNat) (by omega) wd with ⟨_, h | ⟨h, h2⟩⟩ | ⟨h, _⟩
            · exact .inl h
            · exact .inr ⟨h, by omega⟩
            · rw [hl] at h; cases h
          · left
            rcases legV_cases ps (i := i.toNat) (j := j.toNat) (by omega) wd with ⟨h, _⟩ | ⟨_, h, h2⟩
            · rw [hl] at h; cases h
            · exact ⟨h, by omega, g1⟩
      obtain ⟨n, e0, m, f0, hn, he, hmm, hff, hcase⟩ := hmain
      have HL := Lib.hid (And.intro hn he)
      have HN := Lib.hid (And.intro hmm hff)
      clear hn he hmm hff
      rcases hcase with ⟨rfl, rfl⟩ | ⟨rfl, i1, i2, i3, ⟨c1, c2, rfl⟩ | ⟨rfl, m1, m2, c1 | ⟨c1, c2⟩⟩⟩
      all_goals
        go_enter Try.func5, Try.ntmps5
        go_wp2_with fail
        refine (awake_any _).mono ?_
        rintro e w1 ⟨rfl, hb1⟩
        go_wp2_with fail
        refine (rvalid_at _ _ ps _ HV.out HM.out (HP.out.next (below_next HB.out hb1))).mono ?_
        rintro e w2 ⟨rfl, hb2'⟩
        have hb2 := below_next hb1 hb2'
        have f2 := kept_box hb2 2 _ rfl
        go_wp2_with fail
        refine (rfits_at _ _ _ HF.out).mono ?_
        rintro e w3 ⟨rfl, hb3'⟩
        have hb3 := below_next hb2 hb3'
        have f30 := kept_box hb3 0 _ rfl
        have f31 := kept_box hb3 1 _ rfl
        clear f2 hb1 hb2' hb2 hb3'
        go_wp2_with fail
        refine (Length_at _ _ ps _ _ _ HL.out.1 HL.out.2 HM.out (HP.out.next (below_next HB.out hb3))).mono ?_
        rintro e w4 ⟨rfl, hb4'⟩
        have hb4 := below_next hb3 hb4'
        clear f30 f31 hb3 hb4'
        have f40 := kept_box hb4 0 _ rfl
        have f41 := kept_box hb4 1 _ rfl
        have f42 := kept_box hb4 2 _ rfl
        go_wp2_with fail
        refine (Line_at _ _ ps _ _ _ _ HN.out.1 HN.out.2 HM.out (HP.out.next (below_next HB.out hb4))).mono ?_
        rintro e w5 ⟨rfl, hb5'⟩
        have hb5 := below_next hb4 hb5'
        clear f40 f41 f42 hb4 hb5'
        have f50 := kept_box hb5 0 _ rfl
        have f51 := kept_box hb5 1 _ rfl
        have f52 := kept_box hb5 2 _ rfl
        go_wp2
        go_ret
        first
          | exact ⟨rfl, below_next HB.out hb5⟩
          | exact ⟨ret_bool (by simp; omega), below_next HB.out hb5⟩
end Go.Proofs.Ytdmcddhepgodhaa
