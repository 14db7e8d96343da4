/- The walk of BreakerNumbers. -/
import Derived.Test.YtogkjaohphnflaaBrkNum
namespace Go.Proofs.Ytogkjaohphnflaa
open Go.RowKit
theorem Lines_k {Q : List Nat} {t : Int} {k : Nat} (A : Option Addr) (c : Nat) (ps : List Pc) (wd ind : Int) (w : World) (h1 : linesP ps wd ind k = Q) (h2 : linesN ps wd ind k = t) (h3 : linesE ps wd ind k = 0) (hq : Q.length = k) (hm : ps.length ≤ lenMax) (hP : Pcs w w.heap.size A ps) :
    Calls Try.prog 19 #[.slice A ps.length c, .int .i64 wd, .int .i64 ind, .int .i64 (k : Int)] w fun e w' =>
      (∃ A' c', e = .returned (.tuple #[.slice A' k c', .int .i64 t, .int .i64 0]) ∧ Ints w' w'.heap.size A' (Q.map Int.ofNat)) ∧ Below w.heap.size w w' := by
  refine (Lines_is A c ps wd ind k w h1 h2 h3 hm hP).mono ?_
  rintro e w' ⟨⟨A', c', he, hI⟩, hb⟩
  exact ⟨⟨A', c', by rw [he, hq], hI⟩, hb⟩
theorem Lines_8 {k : Nat} (A : Option Addr) (c : Nat) (ps : List Pc) (wd ind : Int) (w : World) (h3 : linesE ps wd ind k = 8) (hm : ps.length ≤ lenMax) (hP : Pcs w w.heap.size A ps) :
    Calls Try.prog 19 #[.slice A ps.length c, .int .i64 wd, .int .i64 ind, .int .i64 (k : Int)] w fun e w' =>
      (∃ A' c', e = .returned (.tuple #[.slice A' 0 c', .int .i64 0, .int .i64 8])) ∧ Below w.heap.size w w' := by
  refine (Lines_is (P := []) (t := 0) A c ps wd ind k w (by unfold linesP; rw [h3]; rfl) (by unfold linesN; rw [h3]; rfl) h3 hm hP).mono ?_
  rintro e w' ⟨⟨A', c', he, _⟩, hb⟩
  exact ⟨⟨A', c', he⟩, hb⟩
theorem Fewest_is {k : Nat} (A : Option Addr) (c : Nat) (ps : List Pc) (wd ind : Int) (w : World) (hv : parB ps wd ind = true) (hk : fewT ps.length (gG ps wd ind) 0 = k) (hP : Pcs w w.heap.size A ps) :
    Calls Try.prog 17 #[.slice A ps.length c, .int .i64 wd, .int .i64 ind] w fun e w' => e = .returned (.tuple #[.int .i64 (k : Int), .int .i64 0]) ∧ Below w.heap.size w w' := by
  rw [← hk]; exact Fewest_yes A c ps wd ind w (parB_iff.1 hv).1 (parB_iff.1 hv).2 hP
set_option maxRecDepth 100000 in
set_option maxHeartbeats 1000000 in
theorem breakerNum_walk (A : Option Addr) (c : Nat) (ps : List Pc) (wd ind ln : Int) (w : World) (hm : ps.length ≤ lenMax) (hP : Pcs w w.heap.size A ps) :
    Calls Try.prog 9 #[.slice A ps.length c, .agg #[.int .i64 wd, .int .i64 ind, .int .i64 ln]] w fun e w' => e = .returned (.bool true) ∧ Below w.heap.size w w' := by
  have hm' : ps.length ≤ 9223372036854775807 := hm
  have HM := Lib.hid hm
  have HP := Lib.hid hP
  clear hm hP
  have HB : Hid (Below w.heap.size w (w.alloc (.cells #[.int .i64 wd, .int .i64 ind, .int .i64 ln] 24))) := (Below.refl _ _).alloc (Nat.le_refl _) _
  cases hv : parB ps wd ind
  · have HV := Lib.hid hv
    clear hv
    go_enter Try.func9, Try.ntmps9
    go_wp2_with fail
    refine (bawake_any _).mono ?_
    rintro e w1 ⟨rfl, hb1⟩
    have f0 := kept_box hb1 0 _ rfl
    have f1 := kept_box hb1 1 _ rfl
    have f2 := kept_box hb1 2 _ rfl
    go_wp2_with fail
    refine (fits_at _ _ ps _ _ _ _ HV.out HM.out (HP.out.next (below_next HB.out hb1))).mono ?_
    rintro e w2 ⟨rfl, hb2⟩
    go_wp2
    go_ret
    exact ⟨rfl, below_next HB.out (below_next hb1 hb2)⟩
  · have HV := Lib.hid hv
    have h64 := (validB_iff.1 (parB_iff.1 hv).1).1.2
    clear hv
    by_cases h20 : ps.length ≤ 20
    · obtain ⟨n1, n2, n3, n4, n5⟩ := numbers_law HV.out
      obtain ⟨fw, hfw⟩ : ∃ fw, fewT ps.length (gG ps wd ind) 0 = fw := ⟨_, rfl⟩
      obtain ⟨P, hPP⟩ : ∃ P, bestP ps wd ind = P := ⟨_, rfl⟩
      obtain ⟨bt, hbt⟩ : ∃ bt, (bestT ps wd ind).dm = bt := ⟨_, rfl⟩
      rw [hfw] at n1 n3 n4 n5
      rw [hPP] at n1 n2 n5
      rw [hbt] at n5
      have HN := Lib.hid (And.intro n4 n5)
      have HFW := Lib.hid hfw
      have HPP := Lib.hid hPP
      have HBT := Lib.hid hbt
      have hdec : decide ((20 : Int) < (ps.length : Int)) = false := decide_eq_false (by omega)
      have hdec2 : decide ((P.length : Int) < (fw : Int)) = false := decide_eq_false (by omega)
      have hdec3 : decide (P.length < fw) = false := decide_eq_false (by omega)
      clear n4 n5 hfw hPP hbt
      go_enter Try.func9, Try.ntmps9
      go_wp2_with fail
      refine (bawake_any _).mono ?_
      rintro e w1 ⟨rfl, hb1⟩
      have f0 := kept_box hb1 0 _ rfl
      have f1 := kept_box hb1 1 _ rfl
      have f2 := kept_box hb1 2 _ rfl
      go_wp2_with fail
      refine (fits_at _ _ ps _ _ _ _ HV.out HM.out (HP.out.next (below_next HB.out hb1))).mono ?_
      rintro e w2 ⟨rfl, hb2⟩
      have HB2 := Lib.hid (below_next hb1 hb2)
      have HW2 : Hid (Below w.heap.size w w2) := below_next HB.out HB2.out
      clear hb1 hb2 f0 f1 f2
      have f0 := kept_box HB2.out 0 _ rfl
      have f1 := kept_box HB2.out 1 _ rfl
      go_wp2_with fail
      refine (Best_is _ _ ps _ _ _ HV.out HPP.out HBT.out (HP.out.next HW2.out)).mono ?_
      rintro e w3 ⟨⟨A3, c3, rfl, hI⟩, hb3⟩
      have HI := Lib.hid hI
      have HB3 := Lib.hid (below_next HB2.out hb3)
      have HW3 : Hid (Below w.heap.size w w3) := below_next HW2.out hb3
      clear hb3 f0 f1 hI
      have f0 := kept_box HB3.out 0 _ rfl
      have f1 := kept_box HB3.out 1 _ rfl
      go_wp2_with fail
      refine (Fewest_is _ _ ps _ _ _ HV.out HFW.out (HP.out.next HW3.out)).mono ?_
      rintro e w4 ⟨rfl, hb4⟩
      have HI4 : Hid (Ints w4 w4.heap.size A3 (P.map Int.ofNat)) := HI.out.next hb4
      have HW4 : Hid (Below w.heap.size w w4) := below_next HW3.out hb4
      have HMB := Lib.hid (((below_next HB3.out hb4).block w.heap.size (by simp)).trans (blk_new w (.cells #[.int .i64 wd, .int .i64 ind, .int .i64 ln] 24)))
      have hlt4 := (Array.getElem?_eq_some_iff.1 HMB.out).1
      clear hb4 f0 f1
      go_wp2_with fail
      go_loopw [10] (fun q wr => ∃ k : Nat, k ≤ ps.length + 2 ∧ q = .int .i64 (k : Int) ∧ Below w4.heap.size w4 wr) (fun q _ => ps.length + 2 - (intOf q).toNat)
      case atStart => exact ⟨0, by omega, rfl, Below.refl _ _⟩
      case round =>
        obtain ⟨k, hk, rfl, hbw⟩ := hrel
        have HWR : Hid (Below w.heap.size w wr) := below_next HW4.out hbw
        have m := (hbw.block _ hlt4).trans HMB.out
        have f0 := blk_cell m 0 _ rfl
        have f1 := blk_cell m 1 _ rfl
        have HBW := Lib.hid hbw
        clear m hbw
        by_cases hlt : k < ps.length + 2
        · by_cases ho : k < fw ∨ ps.length < k
          · have HE := Lib.hid (HN.out.1 k ho)
            rcases ho with ho | ho
            all_goals
              go_wp2_with fail
              refine (Lines_8 _ _ ps _ _ _ HE.out HM.out (HP.out.next HWR.out)).mono ?_
              rintro e w5 ⟨⟨A5, c5, rfl⟩, hb5⟩
              go_wp2
              go_roundw
              case rel => exact ⟨k + 1, by omega, by go_num, below_next HBW.out hb5⟩
              case measure => simp [intOf]; omega
          · have ho1 : fw ≤ k := by omega
            have ho2 : k ≤ ps.length := by omega
            clear ho
            rcases HN.out.2 k ho1 ho2 with ⟨hE, hne1, hne2⟩ | ⟨hE, hge, heq⟩
            · have HE := Lib.hid hE
              have b1 : ((k : Int) == (fw : Int)) = false := by simp; omega
              have b2 : ((k : Int) == (ps.length : Int)) = false := by simp; omega
              have b3 : ¬ (k : Int) = (fw : Int) := by omega
              have b4 : ¬ (k : Int) = (ps.length : Int) := by omega
              clear hE
              go_wp2_with fail
              refine (Lines_8 _ _ ps _ _ _ HE.out HM.out (HP.out.next HWR.out)).mono ?_
              rintro e w5 ⟨⟨A5, c5, rfl⟩, hb5⟩
              go_wp2
              go_roundw
              case rel => exact ⟨k + 1, by omega, by go_num, below_next HBW.out hb5⟩
              case measure => simp [intOf]; omega
            · have hql := (linesP_len HV.out (k : Int)).2 hE
              obtain ⟨Q, hQ⟩ : ∃ Q, linesP ps wd ind k = Q := ⟨_, rfl⟩
              obtain ⟨t, ht⟩ : ∃ t, linesN ps wd ind k = t := ⟨_, rfl⟩
              rw [hQ] at hql heq
              rw [ht] at hge heq
              have HQ := Lib.hid (And.intro (And.intro hQ ht) (And.intro hE (show Q.length = k by omega)))
              clear hE hQ ht hql
              by_cases hkl : k = P.length
              · obtain ⟨h1, h2⟩ := heq hkl
                subst h2
                subst h1
                subst hkl
                have hQl : Q.length ≤ 64 := by omega
                clear heq hge
                go_wp2_with fail
                refine (Lines_k _ _ ps _ _ _ HQ.out.1.1 HQ.out.1.2 HQ.out.2.1 rfl HM.out (HP.out.next HWR.out)).mono ?_
                rintro e w5 ⟨⟨A5, c5, rfl, hI5⟩, hb5⟩
                have HI5 := Lib.hid hI5
                have HB5 := Lib.hid (below_next HBW.out hb5)
                clear hI5 hb5
                go_wp2_with fail
                refine (same_eq A5 A3 c5 _ Q _ hQl HI5.out (HI4.out.next HB5.out)).mono ?_
                rintro e w6 ⟨rfl, hb6⟩
                go_wp2
                go_roundw
                case rel => exact ⟨Q.length + 1, by omega, by go_num, below_next HB5.out hb6⟩
                case measure => simp [intOf]; omega
              · have b3 : ¬ (k : Int) = (P.length : Int) := by omega
                have b1 : ((k : Int) == (P.length : Int)) = false := by simp; omega
                have b2 : (k == P.length) = false := by simp; omega
                clear heq
                go_wp2_with fail
                refine (Lines_k _ _ ps _ _ _ HQ.out.1.1 HQ.out.1.2 HQ.out.2.1 HQ.out.2.2 HM.out (HP.out.next HWR.out)).mono ?_
                rintro e w5 ⟨⟨A5, c5, rfl, hI5⟩, hb5⟩
                go_wp2
                go_roundw
                case rel => exact ⟨k + 1, by omega, by go_num, below_next HBW.out hb5⟩
                case measure => simp [intOf]; omega
        · obtain rfl : k = ps.length + 2 := by omega
          go_wp2
          go_ret
          exact ⟨rfl, HWR.out⟩
    · go_enter Try.func9, Try.ntmps9
      go_wp2_with fail
      refine (bawake_any _).mono ?_
      rintro e w1 ⟨rfl, hb1⟩
      have f0 := kept_box hb1 0 _ rfl
      have f1 := kept_box hb1 1 _ rfl
      have f2 := kept_box hb1 2 _ rfl
      go_wp2_with fail
      refine (fits_at _ _ ps _ _ _ _ HV.out HM.out (HP.out.next (below_next HB.out hb1))).mono ?_
      rintro e w2 ⟨rfl, hb2⟩
      go_wp2
      go_ret
      exact ⟨rfl, below_next HB.out (below_next hb1 hb2)⟩
end Go.Proofs.Ytogkjaohphnflaa
