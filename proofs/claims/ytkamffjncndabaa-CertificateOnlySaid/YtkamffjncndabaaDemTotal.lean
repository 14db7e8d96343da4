/- demerit.Total returns the sum of the demerits of starts. -/
import Derived.Test.YtkamffjncndabaaDemLine2
import Derived.Test.YtkamffjncndabaaDemStarts
namespace Go.Proofs.Ytkamffjncndabaa
open Go.RowKit
theorem starts_at {r : Bool} (A : Option Addr) (c : Nat) (l : List Int) (n : Nat) (w : World) (hr : startsB n l = r) (hm : l.length ≤ lenMax) (hI : Ints w w.heap.size A l) :
    Calls Try.prog 34 #[.slice A l.length c, .int .i64 (n : Int)] w fun e w' => e = .returned (.bool r) ∧ Below w.heap.size w w' := by
  rw [← hr]; exact starts_any A c l n w hm hI
theorem totE_cases (ps : List Pc) (l : List Int) (w ind : Int) :
    (validB ps = false ∧ totE ps l w ind = 1 ∧ totN ps l w ind = 0) ∨ (validB ps = true ∧ (
      ((w < 1 ∨ (1 ≤ w ∧ 10000000 < w) ∨ (1 ≤ w ∧ w ≤ 10000000 ∧ ind < 0) ∨ (1 ≤ w ∧ w ≤ 10000000 ∧ 0 ≤ ind ∧ w ≤ ind)) ∧ fitsB w ind = false ∧ totE ps l w ind = 1 ∧ totN ps l w ind = 0) ∨
      (1 ≤ w ∧ w ≤ 10000000 ∧ 0 ≤ ind ∧ ind < w ∧ fitsB w ind = true ∧ (
        (startsB ps.length l = false ∧ totE ps l w ind = 4 ∧ totN ps l w ind = 0) ∨ (startsB ps.length l = true))))) := by
  unfold totN totE
  by_cases hv : validB ps = true
  · refine .inr ⟨hv, ?_⟩
    by_cases hf : fitsB w ind = true
    · have h := hf
      unfold fitsB at h
      simp only [Bool.and_eq_true, decide_eq_true_eq] at h
      refine .inr ⟨h.1.1, h.1.2, h.2.1, h.2.2, hf, ?_⟩
      rw [if_pos ⟨hv, hf⟩]
      cases hs : startsB ps.length l
      · exact .inl ⟨rfl, rfl, rfl⟩
      · exact .inr rfl
    · have h := hf
      unfold fitsB at h
      simp only [Bool.and_eq_true, decide_eq_true_eq] at h
      refine .inl ⟨by omega, by simpa using hf, ?_⟩
      rw [if_neg (by simp [hf])]
      exact ⟨rfl, rfl⟩
  · refine .inl ⟨by simpa using hv, ?_⟩
    rw [if_neg (by simp [hv])]
    exact ⟨rfl, rfl⟩
theorem totL_false {ps : List Pc} {l : List Int} {w ind : Int} : ∀ {m k : Nat}, k < m → legV ps (lAt l k).toNat (endAt ps.length l k).toNat (widAt w ind k) = false → totL ps l w ind m = false
  | 0, _, hk, _ => by omega
  | m + 1, k, hk, h => by
    unfold totL
    by_cases e : k = m
    · rw [← e, h, Bool.and_false]
    · rw [totL_false (by omega) h, Bool.false_and]
theorem tot_no {ps : List Pc} {l : List Int} {w ind : Int} {k : Nat} (hv : validB ps = true) (hf : fitsB w ind = true) (hs : startsB ps.length l = true) (hk : k < l.length) (h : legV ps (lAt l k).toNat (endAt ps.length l k).toNat (widAt w ind k) = false) : totE ps l w ind = 6 ∧ totN ps l w ind = 0 := by
  have : totE ps l w ind = 6 := by unfold totE; rw [if_pos ⟨hv, hf⟩, if_pos hs, if_neg (by rw [totL_false hk h]; simp)]
  exact ⟨this, by unfold totN; rw [this]; rfl⟩
theorem tot_yes {ps : List Pc} {l : List Int} {w ind : Int} (hv : validB ps = true) (hf : fitsB w ind = true) (hs : startsB ps.length l = true) (h : totL ps l w ind l.length = true) : totE ps l w ind = 0 ∧ totN ps l w ind = totS ps l w ind l.length := by
  have : totE ps l w ind = 0 := by unfold totE; rw [if_pos ⟨hv, hf⟩, if_pos hs, if_pos h]
  exact ⟨this, by unfold totN; rw [this]; rfl⟩
theorem end_more {n : Nat} {l : List Int} {k : Nat} (h : k + 1 < l.length) : endAt n l k = lAt l (k + 1) := by unfold endAt; rw [if_pos h]
theorem end_last {n : Nat} {l : List Int} {k : Nat} (h : ¬ k + 1 < l.length) : endAt n l k = n := by unfold endAt; rw [if_neg h]
theorem wid_first {w ind : Int} {k : Nat} (h : ¬ 0 < k) : widAt w ind k = w := by unfold widAt; rw [if_pos (by omega)]
theorem wid_more {w ind : Int} {k : Nat} (h : 0 < k) : widAt w ind k = w - ind := by unfold widAt; rw [if_neg (by omega)]

set_option maxHeartbeats 4000000 in
theorem Total_any (A A2 : Option Addr) (c c2 : Nat) (ps : List Pc) (l : List Int) (wd ind : Int) (w : World) (hm : ps.length ≤ lenMax) (hl : l.length ≤ lenMax) (hP : Pcs w w.heap.size A ps) (hI : Ints w w.heap.size A2 l) :
    Calls Try.prog 20 #[.slice A ps.length c, .slice A2 l.length c2, .int .i64 wd, .int .i64 ind] w fun e w' => e = .returned (.tuple #[.int .i64 (totN ps l wd ind), .int .i64 (totE ps l wd ind)]) ∧ Below w.heap.size w w' := by
  have hm' : ps.length ≤ 9223372036854775807 := hm
  have hl' : l.length ≤ 9223372036854775807 := hl
  have HM := Lib.hid hm
  have HL := Lib.hid hl
  have HP := Lib.hid hP
  have HI := Lib.hid hI
  clear hm hl hP hI
  rcases totE_cases ps l wd ind with ⟨hv, e1, e2⟩ | ⟨hv, ⟨hw, hf, e1, e2⟩ | ⟨q1, q2, q3, q4, hf, ⟨hs, e1, e2⟩ | hs⟩⟩
  · have HE1 := Lib.hid e1
    have HE2 := Lib.hid e2
    have HV := Lib.hid hv
    clear e1 e2 hv
    go_enter Try.func20, Try.ntmps20
    go_wp2_with (go_at_call 33; refine (valid_at _ c ps _ HV.out HM.out HP.out).mono ?_; rintro e w1 ⟨rfl, hb⟩)
    go_ret2
    exact ⟨ret_two HE2.out.symm HE1.out.symm, hb⟩
  · have HE1 := Lib.hid e1
    have HE2 := Lib.hid e2
    have HV := Lib.hid hv
    clear e1 e2 hv hf
    rcases hw with hw | ⟨hw, hw2⟩ | ⟨hw, hw2, hw3⟩ | ⟨hw, hw2, hw3, hw4⟩
    all_goals
      go_enter Try.func20, Try.ntmps20
      go_wp2_with (go_at_call 33; refine (valid_at _ c ps _ HV.out HM.out HP.out).mono ?_; rintro e w1 ⟨rfl, hb⟩)
      go_ret2
      exact ⟨ret_two HE2.out.symm HE1.out.symm, hb⟩
  · have HE1 := Lib.hid e1
    have HE2 := Lib.hid e2
    have HV := Lib.hid hv
    have HS := Lib.hid hs
    clear e1 e2 hv hf hs
    go_enter Try.func20, Try.ntmps20
    go_wp2_with (first
      | (go_at_call 33; refine (valid_at _ c ps _ HV.out HM.out HP.out).mono ?_; rintro e w1 ⟨rfl, hb⟩)
      | (go_at_call 34; refine (starts_at _ c2 l ps.length _ HS.out HL.out (HI.out.next hb)).mono ?_; rintro e w2 ⟨rfl, hb2⟩))
    go_ret2
    exact ⟨ret_two HE2.out.symm HE1.out.symm, below_next hb hb2⟩
  · have HV := Lib.hid hv
    have HS := Lib.hid hs
    have HF := Lib.hid hf
    have hlen := st_len hs
    have h64 := (validB_iff.1 hv).1.2
    have hpos := (startsB_iff.1 hs).1
    clear hv hs hf
    obtain ⟨b, off, rfl, hB, hc⟩ := HI.out hpos
    go_enter Try.func20, Try.ntmps20
    go_wp2_with (first
      | (go_at_call 33; refine (valid_at _ c ps _ HV.out HM.out HP.out).mono ?_; rintro e w1 ⟨rfl, hb⟩)
      | (go_at_call 34; refine (starts_at _ c2 l ps.length _ HS.out HL.out (HI.out.next hb)).mono ?_; rintro e w2 ⟨rfl, hb2⟩))
    have hb12 := below_next hb hb2
    clear hb hb2
    go_loopw [10, 44] (fun s i wr => ∃ k : Nat, k ≤ l.length ∧ i = .int .i64 k ∧ s = .int .i64 (totS ps l wd ind k) ∧ totL ps l wd ind k = true ∧ Below w.heap.size w wr) (fun _ i _ => l.length - (intOf i).toNat)
    case atStart => exact ⟨0, Nat.zero_le _, rfl, rfl, rfl, hb12⟩
    case round =>
      obtain ⟨k, hk, rfl, rfl, htl, hnx⟩ := hrel
      have HT := Lib.hid htl
      clear htl
      by_cases hlt : k < l.length
      · have ck := (hnx.cell (p := ⟨b, off + k, none⟩) hB).trans (hc k hlt)
        have hge := st_ge HS.out hlt
        have hltn := st_lt HS.out hlt
        have hend := st_end HS.out hlt
        have hwid := widAt_bound HF.out k
        have hsb := totS_bound HV.out HF.out HS.out k hk
        have hsb2 := totS_bound HV.out HF.out HS.out (k + 1) hlt
        rw [totS] at hsb2
        have HEQ : Hid (totS ps l wd ind (k + 1) = totS ps l wd ind k + demV ps (lAt l k).toNat (endAt ps.length l k).toNat (widAt wd ind k)) := rfl
        have HLQ : Hid (totL ps l wd ind (k + 1) = legV ps (lAt l k).toNat (endAt ps.length l k).toNat (widAt wd ind k)) := by
          show (totL ps l wd ind k && _) = _
          rw [HT.out, Bool.true_and]
        have HNO : Hid (legV ps (lAt l k).toNat (endAt ps.length l k).toNat (widAt wd ind k) = false → totE ps l wd ind = 6 ∧ totN ps l wd ind = 0) := tot_no HV.out HF.out HS.out hlt
        have hwc : (0 < k ∧ widAt wd ind k = wd - ind ∧ 0 < lAt l k) ∨ (¬ 0 < k ∧ widAt wd ind k = wd ∧ lAt l k ≤ 0) := by
          by_cases h : 0 < k
          · exact .inl ⟨h, wid_more h, by omega⟩
          · refine .inr ⟨h, wid_first h, ?_⟩
            rw [show k = 0 from by omega, (startsB_iff.1 HS.out).2.1]
            omega
        have hec : (k + 1 < l.length ∧ endAt ps.length l k = lAt l (k + 1) ∧ wr.cell? ⟨b, off + (k + 1), none⟩ = some (.int .i64 (lAt l (k + 1)))) ∨ (¬ k + 1 < l.length ∧ endAt ps.length l k = ps.length ∧ True) := by
          by_cases h : k + 1 < l.length
          · exact .inl ⟨h, end_more h, (hnx.cell (p := ⟨b, off + (k + 1), none⟩) hB).trans (hc (k + 1) h)⟩
          · exact .inr ⟨h, end_last h, trivial⟩
        clear hc
        rcases hwc with ⟨hk0, e, h0⟩ | ⟨hk0, e, h0⟩
        all_goals
          rw [e] at hwid hsb2 HEQ HLQ HNO
          clear e
          rcases hec with ⟨hk1, e, ck1⟩ | ⟨hk1, e, ck1⟩
          all_goals
            rw [e] at hend hsb2 HEQ HLQ HNO
            clear e
            first
              | simp only [Int.toNat_natCast] at hsb2 HEQ HLQ HNO
              | generalize hX : lAt l (k + 1) = X at hend hsb2 HEQ HLQ HNO ck1
                clear hX
            obtain ⟨r, hr⟩ : ∃ r, totL ps l wd ind (k + 1) = r := ⟨_, rfl⟩
            have HG := Lib.hid (HLQ.out.symm.trans hr)
            have HR := Lib.hid hr
            clear hr HLQ
            cases r
            · have HE := Lib.hid (HNO.out HG.out)
              clear HNO HEQ HR hsb hsb2
              go_wp2_with (go_at_call 35; refine (line_at (b := false) _ c ps _ _ _ _ (by simpa only [Int.toNat_natCast] using HG.out) (by omega) (by omega) (by omega) (by omega) (by omega) HV.out (HP.out.next hnx)).mono ?_; rintro e w3 ⟨rfl, hb3⟩)
              go_ret2
              exact ⟨ret_two HE.out.2.symm HE.out.1.symm, below_next hnx hb3⟩
            · clear HNO
              go_wp2_with (go_at_call 35; refine (line_at (b := true) _ c ps _ _ _ _ (by simpa only [Int.toNat_natCast] using HG.out) (by omega) (by omega) (by omega) (by omega) (by omega) HV.out (HP.out.next hnx)).mono ?_; rintro e w3 ⟨rfl, hb3⟩)
              go_roundw
              case rel => exact ⟨k + 1, by omega, by go_num, by rw [HEQ.out], HR.out, below_next hnx hb3⟩
              case measure => simp [intOf]; omega
      · obtain rfl : k = l.length := by omega
        have HY := Lib.hid (tot_yes HV.out HF.out HS.out HT.out)
        clear hc
        go_wp2
        go_ret2
        exact ⟨ret_two HY.out.2.symm HY.out.1.symm, hnx⟩
end Go.Proofs.Ytkamffjncndabaa
