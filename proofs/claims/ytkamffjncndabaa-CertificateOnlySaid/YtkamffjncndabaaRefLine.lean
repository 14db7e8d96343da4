/- The references Line, Fits and Starts. -/
import Derived.Test.YtkamffjncndabaaRefLen
import Derived.Test.YtkamffjncndabaaDemTotal
namespace Go.Proofs.Ytkamffjncndabaa
open Go.RowKit
theorem rLength_at {n' e' : Int} (A : Option Addr) (c : Nat) (ps : List Pc) (i j : Int) (w : World) (hn : lenN ps i j = n') (he : lenE ps i j = e') (hm : ps.length ≤ lenMax) (hP : Pcs w w.heap.size A ps) :
    Calls Try.prog 45 #[.slice A ps.length c, .int .i64 i, .int .i64 j] w fun e w' => e = .returned (.tuple #[.int .i64 n', .int .i64 e']) ∧ Below w.heap.size w w' := by
  rw [← hn, ← he]; exact rLength_any A c ps i j w hm hP
theorem demV_eq (ps : List Pc) (i j : Nat) (w : Int) : (0 < i → demV ps i j w = 100 + badV ps i j w + pnAt ps i) ∧ (¬ 0 < i → demV ps i j w = 100 + badV ps i j w) := by
  unfold demV
  constructor
  · intro h; rw [if_pos h]; omega
  · intro h; rw [if_neg h]; omega
theorem legV_cases (ps : List Pc) {i j : Nat} (hi : i < j) (w : Int) : (legV ps i j w = true ∧ (lenL ps i j ≤ w ∨ (w < lenL ps i j ∧ ¬ i + 1 < j))) ∨ (legV ps i j w = false ∧ w < lenL ps i j ∧ i + 1 < j) := by
  unfold legV
  by_cases h : lenL ps i j ≤ w
  · exact .inl ⟨by rw [decide_eq_true h]; rfl, .inl h⟩
  · by_cases h2 : j = i + 1
    · exact .inl ⟨by rw [decide_eq_true h2, Bool.or_true], .inr ⟨by omega, by omega⟩⟩
    · exact .inr ⟨by rw [decide_eq_false h, decide_eq_false h2]; rfl, by omega, by omega⟩

set_option maxHeartbeats 4000000 in
theorem rLine_any (A : Option Addr) (c : Nat) (ps : List Pc) (i j wd : Int) (w : World) (hm : ps.length ≤ lenMax) (hP : Pcs w w.heap.size A ps) :
    Calls Try.prog 40 #[.slice A ps.length c, .int .i64 i, .int .i64 j, .int .i64 wd] w fun e w' => e = .returned (.tuple #[.int .i64 (lineN ps i j wd), .int .i64 (lineE ps i j wd)]) ∧ Below w.heap.size w w' := by
  have hm' : ps.length ≤ 9223372036854775807 := hm
  have HM := Lib.hid hm
  have HP := Lib.hid hP
  clear hm hP
  rcases lineE_cases ps i j wd with ⟨hv, e1, e2⟩ | ⟨hv, ⟨hw, e1, e2⟩ | ⟨q1, q2, ⟨hr, e1, e2⟩ | ⟨r1, r2, r3, hh⟩⟩⟩
  · have HE1 := Lib.hid e1
    have HE2 := Lib.hid e2
    have HV := Lib.hid hv
    clear e1 e2 hv
    go_enter Try.func40, Try.ntmps40
    go_wp2_with (first
      | (go_at_call 45; refine (rLength_any _ c ps i j _ HM.out HP.out).mono ?_; rintro e w1 ⟨rfl, hb⟩)
      | (go_at_call 31; refine (rvalid_at _ c ps _ HV.out HM.out (HP.out.next hb)).mono ?_; rintro e w2 ⟨rfl, hb2⟩))
    go_ret2
    exact ⟨ret_two HE2.out.symm HE1.out.symm, below_next hb hb2⟩
  · have HE1 := Lib.hid e1
    have HE2 := Lib.hid e2
    have HV := Lib.hid hv
    have HW : Hid (wd < 1 ∨ (1 ≤ wd ∧ 10000000 < wd)) := hw
    clear e1 e2 hv hw
    go_enter Try.func40, Try.ntmps40
    go_wp2_with (first
      | (go_at_call 45; refine (rLength_any _ c ps i j _ HM.out HP.out).mono ?_; rintro e w1 ⟨rfl, hb⟩)
      | (go_at_call 31; refine (rvalid_at _ c ps _ HV.out HM.out (HP.out.next hb)).mono ?_; rintro e w2 ⟨rfl, hb2⟩)
      | (go_at_call 41; refine (within_no _ _ _ _ HW.out).mono ?_; rintro e w3 ⟨rfl, hb3⟩))
    go_ret2
    exact ⟨ret_two HE2.out.symm HE1.out.symm, below_next (below_next hb hb2) hb3⟩
  · have HE1 := Lib.hid e1
    have HE2 := Lib.hid e2
    have HV := Lib.hid hv
    have hl : lenE ps i j = 2 ∧ lenN ps i j = 0 := by
      rcases lenE_cases ps i j with ⟨h, _⟩ | ⟨_, ⟨_, h⟩ | ⟨a1, a2, a3, _⟩⟩
      · rw [hv] at h; cases h
      · exact h
      · omega
    have HL := Lib.hid hl
    clear e1 e2 hv hr hl
    go_enter Try.func40, Try.ntmps40
    go_wp2_with (first
      | (go_at_call 45; refine (rLength_at _ c ps i j _ HL.out.2 HL.out.1 HM.out HP.out).mono ?_; rintro e w1 ⟨rfl, hb⟩)
      | (go_at_call 31; refine (rvalid_at _ c ps _ HV.out HM.out (HP.out.next hb)).mono ?_; rintro e w2 ⟨rfl, hb2⟩)
      | (go_at_call 41; refine (within_yes _ _ _ _ q1 q2).mono ?_; rintro e w3 ⟨rfl, hb3⟩))
    go_ret2
    exact ⟨ret_two HE2.out.symm HE1.out.symm, below_next (below_next hb hb2) hb3⟩
  · have HV := Lib.hid hv
    have h64 := (validB_iff.1 hv).1.2
    have hl : lenE ps i j = 0 ∧ lenN ps i j = lenL ps i.toNat j.toNat := by
      rcases lenE_cases ps i j with ⟨h, _⟩ | ⟨_, ⟨h, _⟩ | ⟨a1, a2, a3, h⟩⟩
      · rw [hv] at h; cases h
      · omega
      · exact h
    obtain ⟨a, rfl⟩ := Int.eq_ofNat_of_zero_le r1
    obtain ⟨b, rfl⟩ := Int.eq_ofNat_of_zero_le (show 0 ≤ j by omega)
    simp only [Int.toNat_natCast] at hh hl
    have HL := Lib.hid hl
    have hdem := demV_eq ps a b wd
    have hbb := badV_bound hv (i := a) (j := b) (by omega) q1 q2
    have hal := allOk_at (validB_iff.1 hv).2 (k := a) (by omega)
    obtain ⟨bb, off, rfl, hB, hc⟩ := HP.out (by omega)
    have cp := (hc a (by omega)).2.2
    have HC : Hid (∀ W, Below w.heap.size w W → W.cell? ⟨bb, off + a * 3 + 2, none⟩ = some (.int .i64 (pnAt ps a))) := fun W h => (h.cell (p := ⟨bb, off + a * 3 + 2, none⟩) hB).trans cp
    clear hv hl hc cp
    rcases hh with ⟨hleg, e1, e2⟩ | ⟨hleg, e1, e2⟩
    · rcases legV_cases ps (i := a) (j := b) (by omega) wd with ⟨h, _⟩ | ⟨_, g1, g2⟩
      · rw [hleg] at h; cases h
      · have HE1 := Lib.hid e1
        have HE2 := Lib.hid e2
        clear e1 e2 hleg hdem
        go_enter Try.func40, Try.ntmps40
        go_wp2_with (first
          | (go_at_call 45; refine (rLength_at _ c ps _ _ _ HL.out.2 HL.out.1 HM.out HP.out).mono ?_; rintro e w1 ⟨rfl, hb⟩)
          | (go_at_call 31; refine (rvalid_at _ c ps _ HV.out HM.out (HP.out.next hb)).mono ?_; rintro e w2 ⟨rfl, hb2⟩)
          | (go_at_call 41; refine (within_yes _ _ _ _ q1 q2).mono ?_; rintro e w3 ⟨rfl, hb3⟩))
        go_ret2
        exact ⟨ret_two HE2.out.symm HE1.out.symm, below_next (below_next hb hb2) hb3⟩
    · rcases legV_cases ps (i := a) (j := b) (by omega) wd with ⟨_, hg⟩ | ⟨h, _⟩
      · have HE1 := Lib.hid e1
        have HE2 := Lib.hid e2
        have HD := Lib.hid hdem
        clear e1 e2 hleg hdem
        by_cases ha : 0 < a
        all_goals
          rcases hg with hg | ⟨hg, hg2⟩
          all_goals
            go_enter Try.func40, Try.ntmps40
            go_wp2_with (first
              | (go_at_call 45; refine (rLength_at _ c ps _ _ _ HL.out.2 HL.out.1 HM.out HP.out).mono ?_; rintro e w1 ⟨rfl, hb⟩)
              | (go_at_call 31; refine (rvalid_at _ c ps _ HV.out HM.out (HP.out.next hb)).mono ?_; rintro e w2 ⟨rfl, hb2⟩)
              | (go_at_call 41; refine (within_yes _ _ _ _ q1 q2).mono ?_; rintro e w3 ⟨rfl, hb3⟩)
              | (go_at_call 46; refine (rbad_nat _ c ps _ _ _ _ (by omega) (by omega) q1 q2 HV.out (HP.out.next (below_next (below_next hb hb2) hb3))).mono ?_; rintro e w4 ⟨rfl, hb4⟩; have hc4 := HC.out _ (below_next (below_next (below_next hb hb2) hb3) hb4)))
            go_ret2
            exact ⟨ret_two (by first | rw [HE2.out, HD.out.1 ha] | rw [HE2.out, HD.out.2 ha]) HE1.out.symm, below_next (below_next (below_next hb hb2) hb3) hb4⟩
      · rw [hleg] at h; cases h
end Go.Proofs.Ytkamffjncndabaa
