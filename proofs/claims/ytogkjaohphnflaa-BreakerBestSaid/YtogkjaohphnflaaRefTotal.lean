/- The reference Total. -/
import Derived.Test.YtogkjaohphnflaaRefStarts
namespace Go.Proofs.Ytogkjaohphnflaa
open Go.RowKit
theorem lineE_in {ps : List Pc} {i j w : Int} (hv : validB ps = true) (h0 : 0 ≤ i) (hi : i < j) (hj : j ≤ (ps.length : Int)) (h1 : 1 ≤ w) (h2 : w ≤ 10000000) :
    (legV ps i.toNat j.toNat w = true ∧ lineE ps i j w = 0 ∧ lineN ps i j w = demV ps i.toNat j.toNat w) ∨ (legV ps i.toNat j.toNat w = false ∧ lineE ps i j w = 6 ∧ lineN ps i j w = 0) := by
  rcases lineE_cases ps i j w with ⟨h, _⟩ | ⟨_, ⟨h, _⟩ | ⟨_, _, ⟨h, _⟩ | ⟨_, _, _, h | h⟩⟩⟩
  · rw [hv] at h; cases h
  · omega
  · omega
  · exact .inr h
  · exact .inl h
theorem rLine_no (A : Option Addr) (c : Nat) (ps : List Pc) (i j wd : Int) (w : World) (hb : legV ps i.toNat j.toNat wd = false) (h0 : 0 ≤ i) (hi : i < j) (hj : j ≤ (ps.length : Int)) (h1 : 1 ≤ wd) (h2 : wd ≤ 10000000) (hv : validB ps = true) (hm : ps.length ≤ lenMax) (hP : Pcs w w.heap.size A ps) :
    Calls Try.prog 42 #[.slice A ps.length c, .int .i64 i, .int .i64 j, .int .i64 wd] w fun e w' => e = .returned (.tuple #[.int .i64 0, .int .i64 6]) ∧ Below w.heap.size w w' := by
  rcases lineE_in hv h0 hi hj h1 h2 with ⟨h, _⟩ | ⟨_, e1, e2⟩
  · rw [hb] at h; cases h
  · have := rLine_any A c ps i j wd w hm hP
    rw [e1, e2] at this
    exact this
theorem rLine_yes (A : Option Addr) (c : Nat) (ps : List Pc) (i j wd : Int) (w : World) (hb : legV ps i.toNat j.toNat wd = true) (h0 : 0 ≤ i) (hi : i < j) (hj : j ≤ (ps.length : Int)) (h1 : 1 ≤ wd) (h2 : wd ≤ 10000000) (hv : validB ps = true) (hm : ps.length ≤ lenMax) (hP : Pcs w w.heap.size A ps) :
    Calls Try.prog 42 #[.slice A ps.length c, .int .i64 i, .int .i64 j, .int .i64 wd] w fun e w' => e = .returned (.tuple #[.int .i64 (demV ps i.toNat j.toNat wd), .int .i64 0]) ∧ Below w.heap.size w w' := by
  rcases lineE_in hv h0 hi hj h1 h2 with ⟨_, e1, e2⟩ | ⟨h, _⟩
  · have := rLine_any A c ps i j wd w hm hP
    rw [e1, e2] at this
    exact this
  · rw [hb] at h; cases h

set_option maxHeartbeats 4000000 in
theorem rTotal_any (A A2 : Option Addr) (c c2 : Nat) (ps : List Pc) (l : List Int) (wd ind : Int) (w : World) (hm : ps.length ≤ lenMax) (hl : l.length ≤ lenMax) (hP : Pcs w w.heap.size A ps) (hI : Ints w w.heap.size A2 l) :
    Calls Try.prog 39 #[.slice A ps.length c, .slice A2 l.length c2, .int .i64 wd, .int .i64 ind] w fun e w' => e = .returned (.tuple #[.int .i64 (totN ps l wd ind), .int .i64 (totE ps l wd ind)]) ∧ Below w.heap.size w w' := by
  have hm' : ps.length ≤ 9223372036854775807 := hm
  have hl' : l.length ≤ 9223372036854775807 := hl
  have HM := Lib.hid hm
  have HL := Lib.hid hl
  have HP := Lib.hid hP
  have HI := Lib.hid hI
  clear hm hl hP hI
  rcases totE_cases ps l wd ind with ⟨hv, e1, e2⟩ | ⟨hv, ⟨hw, hf, e1, e2⟩ | ⟨q1, q2, q3, q4, hf, ⟨hs, e1, e2⟩ | hs⟩⟩
  · have HE1 := Lib.hid e1
    have HE2 := Lib.hid e2
    have HV := Lib.hid hv
    clear e1 e2 hv
    go_enter Try.func39, Try.ntmps39
    go_wp2_with (go_at_call 22; refine (rvalid_at _ c ps _ HV.out HM.out HP.out).mono ?_; rintro e w1 ⟨rfl, hb⟩)
    go_ret2
    exact ⟨ret_two HE2.out.symm HE1.out.symm, hb⟩
  · have HE1 := Lib.hid e1
    have HE2 := Lib.hid e2
    have HV := Lib.hid hv
    have HF := Lib.hid hf
    clear e1 e2 hv hf hw
    go_enter Try.func39, Try.ntmps39
    go_wp2_with (first
      | (go_at_call 22; refine (rvalid_at _ c ps _ HV.out HM.out HP.out).mono ?_; rintro e w1 ⟨rfl, hb⟩)
      | (go_at_call 23; refine (rfits_at _ _ _ HF.out).mono ?_; rintro e w2 ⟨rfl, hb2⟩))
    go_ret2
    exact ⟨ret_two HE2.out.symm HE1.out.symm, below_next hb hb2⟩
  · have HE1 := Lib.hid e1
    have HE2 := Lib.hid e2
    have HV := Lib.hid hv
    have HS := Lib.hid hs
    have HF := Lib.hid hf
    clear e1 e2 hv hf hs
    go_enter Try.func39, Try.ntmps39
    go_wp2_with (first
      | (go_at_call 22; refine (rvalid_at _ c ps _ HV.out HM.out HP.out).mono ?_; rintro e w1 ⟨rfl, hb⟩)
      | (go_at_call 23; refine (rfits_at _ _ _ HF.out).mono ?_; rintro e w2 ⟨rfl, hb2⟩)
      | (go_at_call 41; refine (rstarts_at _ c2 l ps.length _ HS.out HL.out (HI.out.next (below_next hb hb2))).mono ?_; rintro e w3 ⟨rfl, hb3⟩))
    go_ret2
    exact ⟨ret_two HE2.out.symm HE1.out.symm, below_next (below_next hb hb2) hb3⟩
  · have HV := Lib.hid hv
    have HS := Lib.hid hs
    have HF := Lib.hid hf
    have hlen := st_len hs
    have h64 := (validB_iff.1 hv).1.2
    have hpos := (startsB_iff.1 hs).1
    clear hv hs hf
    obtain ⟨b, off, rfl, hB, hc⟩ := HI.out hpos
    go_enter Try.func39, Try.ntmps39
    go_wp2_with (first
      | (go_at_call 22; refine (rvalid_at _ c ps _ HV.out HM.out HP.out).mono ?_; rintro e w1 ⟨rfl, hb⟩)
      | (go_at_call 23; refine (rfits_at _ _ _ HF.out).mono ?_; rintro e w2 ⟨rfl, hb2⟩)
      | (go_at_call 41; refine (rstarts_at _ c2 l ps.length _ HS.out HL.out (HI.out.next (below_next hb hb2))).mono ?_; rintro e w3 ⟨rfl, hb3⟩))
    have hb12 := below_next (below_next hb hb2) hb3
    clear hb hb2 hb3
    go_loopw [10, 11] (fun s i wr => ∃ k : Nat, k ≤ l.length ∧ i = .int .i64 k ∧ s = .int .i64 (totS ps l wd ind k) ∧ totL ps l wd ind k = true ∧ Below w.heap.size w wr) (fun _ i _ => l.length - (intOf i).toNat)
    case atStart => exact ⟨0, Nat.zero_le _, rfl, rfl, rfl, hb12⟩
    case round =>
      obtain ⟨k, hk, rfl, rfl, htl, hnx⟩ := hrel
      have HT := Lib.hid htl
      clear htl
      by_cases hlt : k < l.length
      · have ck := (hnx.cell (p := ⟨b, off + k, none⟩) hB).trans (hc k hlt)
        have hge := st_ge HS.out hlt
        have hltn := st_lt HS.out hlt
        have hend := st_end HS.out hlt
        have hwid := widAt_bound HF.out k
        have hsb := totS_bound HV.out HF.out HS.out k hk
        have hsb2 := totS_bound HV.out HF.out HS.out (k + 1) hlt
        rw [totS] at hsb2
        have HEQ : Hid (totS ps l wd ind (k + 1) = totS ps l wd ind k + demV ps (lAt l k).toNat (endAt ps.length l k).toNat (widAt wd ind k)) := rfl
        have HLQ : Hid (totL ps l wd ind (k + 1) = legV ps (lAt l k).toNat (endAt ps.length l k).toNat (widAt wd ind k)) := by
          show (totL ps l wd ind k && _) = _
          rw [HT.out, Bool.true_and]
        have HNO : Hid (legV ps (lAt l k).toNat (endAt ps.length l k).toNat (widAt wd ind k) = false → totE ps l wd ind = 6 ∧ totN ps l wd ind = 0) := tot_no HV.out HF.out HS.out hlt
        have hwc : (0 < k ∧ widAt wd ind k = wd - ind) ∨ (¬ 0 < k ∧ widAt wd ind k = wd) := by
          by_cases h : 0 < k
          · exact .inl ⟨h, wid_more h⟩
          · exact .inr ⟨h, wid_first h⟩
        have hec : (k + 1 < l.length ∧ endAt ps.length l k = lAt l (k + 1) ∧ wr.cell? ⟨b, off + (k + 1), none⟩ = some (.int .i64 (lAt l (k + 1)))) ∨ (¬ k + 1 < l.length ∧ endAt ps.length l k = ps.length ∧ True) := by
          by_cases h : k + 1 < l.length
          · exact .inl ⟨h, end_more h, (hnx.cell (p := ⟨b, off + (k + 1), none⟩) hB).trans (hc (k + 1) h)⟩
          · exact .inr ⟨h, end_last h, trivial⟩
        clear hc
        rcases hwc with ⟨hk0, e⟩ | ⟨hk0, e⟩
        all_goals
          rw [e] at hwid hsb2 HEQ HLQ HNO
          clear e
          rcases hec with ⟨hk1, e, ck1⟩ | ⟨hk1, e, ck1⟩
          all_goals
            rw [e] at hend hsb2 HEQ HLQ HNO
            clear e
            first
              | simp only [Int.toNat_natCast] at hsb2 HEQ HLQ HNO
              | generalize hX : lAt l (k + 1) = X at hend hsb2 HEQ HLQ HNO ck1
                clear hX
            obtain ⟨r, hr⟩ : ∃ r, totL ps l wd ind (k + 1) = r := ⟨_, rfl⟩
            have HG := Lib.hid (HLQ.out.symm.trans hr)
            have HR := Lib.hid hr
            clear hr HLQ
            cases r
            · have HE := Lib.hid (HNO.out HG.out)
              clear HNO HEQ HR hsb hsb2
              go_wp2_with (go_at_call 42; refine (rLine_no _ c ps _ _ _ _ (by simpa only [Int.toNat_natCast] using HG.out) (by omega) (by omega) (by omega) (by omega) (by omega) HV.out HM.out (HP.out.next hnx)).mono ?_; rintro e w3 ⟨rfl, hb3⟩)
              go_ret2
              exact ⟨ret_two HE.out.2.symm HE.out.1.symm, below_next hnx hb3⟩
            · clear HNO
              go_wp2_with (go_at_call 42; refine (rLine_yes _ c ps _ _ _ _ (by simpa only [Int.toNat_natCast] using HG.out) (by omega) (by omega) (by omega) (by omega) (by omega) HV.out HM.out (HP.out.next hnx)).mono ?_; rintro e w3 ⟨rfl, hb3⟩)
              go_roundw
              case rel => exact ⟨k + 1, by omega, by go_num, by rw [HEQ.out], HR.out, below_next hnx hb3⟩
              case measure => simp [intOf]; omega
      · obtain rfl : k = l.length := by omega
        have HY := Lib.hid (tot_yes HV.out HF.out HS.out HT.out)
        clear hc
        go_wp2
        go_ret2
        exact ⟨ret_two HY.out.2.symm HY.out.1.symm, hnx⟩
end Go.Proofs.Ytogkjaohphnflaa
