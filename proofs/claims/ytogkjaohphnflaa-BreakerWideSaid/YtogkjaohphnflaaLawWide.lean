/- The walk of BreakerWide. -/
import Derived.Test.YtogkjaohphnflaaBrkWide
namespace Go.Proofs.Ytogkjaohphnflaa
open Go.RowKit
theorem Length_at {n' e' : Int} (A : Option Addr) (c : Nat) (ps : List Pc) (i j : Int) (w : World) (hn : lenN ps i j = n') (he : lenE ps i j = e') (hm : ps.length ≤ lenMax) (hP : Pcs w w.heap.size A ps) :
    Calls Try.prog 14 #[.slice A ps.length c, .int .i64 i, .int .i64 j] w fun e w' => e = .returned (.tuple #[.int .i64 n', .int .i64 e']) ∧ Below w.heap.size w w' := by
  rw [← hn, ← he]; exact Length_any A c ps i j w hm hP
set_option maxHeartbeats 1000000 in
theorem breakerWide_walk (A : Option Addr) (c : Nat) (ps : List Pc) (wd ind ln : Int) (w : World) (hm : ps.length ≤ lenMax) (hP : Pcs w w.heap.size A ps) :
    Calls Try.prog 4 #[.slice A ps.length c, .agg #[.int .i64 wd, .int .i64 ind, .int .i64 ln]] w fun e w' => e = .returned (.bool true) ∧ Below w.heap.size w w' := by
  have hm' : ps.length ≤ 9223372036854775807 := hm
  have HM := Lib.hid hm
  have HP := Lib.hid hP
  clear hm hP
  have HB : Hid (Below w.heap.size w (w.alloc (.cells #[.int .i64 wd, .int .i64 ind, .int .i64 ln] 24))) := (Below.refl _ _).alloc (Nat.le_refl _) _
  cases hv : parB ps wd ind
  · have HV := Lib.hid hv
    clear hv
    go_enter Try.func4, Try.ntmps4
    go_wp2_with fail
    refine (bawake_any _).mono ?_
    rintro e w1 ⟨rfl, hb1⟩
    have f0 := kept_box hb1 0 _ rfl
    have f1 := kept_box hb1 1 _ rfl
    have f2 := kept_box hb1 2 _ rfl
    go_wp2_with fail
    refine (fits_at _ _ ps _ _ _ _ HV.out HM.out (HP.out.next (below_next HB.out hb1))).mono ?_
    rintro e w2 ⟨rfl, hb2⟩
    go_wp2
    go_ret
    exact ⟨rfl, below_next HB.out (below_next hb1 hb2)⟩
  · have HV := Lib.hid hv
    have HVV := Lib.hid (parB_iff.1 hv).1
    have HFF := Lib.hid (parB_iff.1 hv).2
    clear hv
    have h64 := (validB_iff.1 HVV.out).1.2
    have h10 := (validB_iff.1 HVV.out).1.1
    go_enter Try.func4, Try.ntmps4
    go_wp2_with fail
    refine (bawake_any _).mono ?_
    rintro e w1 ⟨rfl, hb1⟩
    have f0 := kept_box hb1 0 _ rfl
    have f1 := kept_box hb1 1 _ rfl
    have f2 := kept_box hb1 2 _ rfl
    go_wp2_with fail
    refine (fits_at _ _ ps _ _ _ _ HV.out HM.out (HP.out.next (below_next HB.out hb1))).mono ?_
    rintro e w2 ⟨rfl, hb2⟩
    have HB2 := Lib.hid (below_next hb1 hb2)
    have HW2 : Hid (Below w.heap.size w w2) := below_next HB.out HB2.out
    clear hb1 hb2 f0 f1 f2
    go_wp2_with fail
    go_loopw [5] (fun q wr => ∃ k : Nat, k ≤ ps.length ∧ q = .int .i64 (k : Int) ∧ (∀ m, m < k → -100 ≤ pnAt ps m) ∧ wr = w2) (fun q _ => ps.length - (intOf q).toNat)
    case atStart => exact ⟨0, Nat.zero_le _, rfl, fun m hm => absurd hm (Nat.not_lt_zero _), rfl⟩
    case round =>
      obtain ⟨k, hk, rfl, hall, rfl⟩ := hrel
      have HALL := Lib.hid hall
      clear hall
      by_cases hlt : k < ps.length
      · obtain ⟨bA, oA, rfl, hbA, hcA⟩ := HP.out (by omega)
        have l1 := (HW2.out.cell (p := ⟨bA, oA + k * 3 + 2, none⟩) hbA).trans (hcA k hlt).2.2
        clear hcA
        obtain ⟨x, hx⟩ : ∃ x, pnAt ps k = x := ⟨_, rfl⟩
        rw [hx] at l1
        have HX := Lib.hid hx
        clear hx
        by_cases hlow : x < -100
        · go_wp2
          go_ret
          exact ⟨rfl, HW2.out⟩
        · go_wp2
          go_roundw
          case rel => exact ⟨k + 1, by omega, by go_num, fun m hm => by rcases Nat.lt_succ_iff_lt_or_eq.1 hm with h | rfl; exact HALL.out m h; rw [HX.out]; omega, trivial⟩
          case measure => simp [intOf]; omega
      · obtain rfl : k = ps.length := by omega
        have hlen : lenN ps 0 (ps.length : Int) = lenL ps 0 ps.length ∧ lenE ps 0 (ps.length : Int) = 0 := by
          rcases lenE_cases ps 0 (ps.length : Int) with ⟨h, _⟩ | ⟨_, ⟨h, _⟩ | ⟨_, _, _, e1, e2⟩⟩
          · rw [HVV.out] at h; cases h
          · omega
          · exact ⟨by simpa using e2, e1⟩
        obtain ⟨x, hx⟩ : ∃ x, lenL ps 0 ps.length = x := ⟨_, rfl⟩
        have HL := Lib.hid hlen
        have HX := Lib.hid hx
        clear hlen hx
        go_wp2_with fail
        refine (Length_at _ _ ps _ _ _ (HL.out.1.trans HX.out) HL.out.2 HM.out (HP.out.next HW2.out)).mono ?_
        rintro e w3 ⟨rfl, hb3⟩
        have f0 := kept_box (below_next HB2.out hb3) 0 _ rfl
        have f1 := kept_box (below_next HB2.out hb3) 1 _ rfl
        have HW3 : Hid (Below w.heap.size w w3) := below_next HW2.out hb3
        clear hb3
        by_cases hgt : wd < x
        · go_wp2
          go_ret
          exact ⟨rfl, HW3.out⟩
        · have hW := wide_best HVV.out HFF.out HALL.out (by rw [HX.out]; omega)
          have HWB := Lib.hid hW
          clear hW
          go_wp2_with fail
          refine (Best_is _ _ ps _ _ _ HV.out HWB.out.1 HWB.out.2 (HP.out.next HW3.out)).mono ?_
          rintro e w4 ⟨⟨A', c', rfl, hI⟩, hb4⟩
          have HI := Lib.hid hI
          have HW4 : Hid (Below w.heap.size w w4) := below_next HW3.out hb4
          clear hI hb4
          simp only [List.length_cons, List.length_nil, Nat.reduceAdd]
          go_wp2_with fail
          have HS := fun X (hA : Ints X X.heap.size A' [0]) (hB : Ints X X.heap.size (some ⟨w4.heap.size, 0, none⟩) [0]) => same_at (r := true) A' (some ⟨w4.heap.size, 0, none⟩) c' 1 [0] [0] X (by decide) (by decide) (by decide) hA hB
          refine (HS _ (HI.out.next ((Below.refl _ _).alloc (Nat.le_refl _) _)) (ints_one w4 _)).mono ?_
          rintro e w5 ⟨rfl, hb5⟩
          go_wp2
          go_ret
          exact ⟨rfl, HW4.out.trans (((Below.refl w4.heap.size w4).alloc (Nat.le_refl _) _).mono HW4.out.size |>.trans (hb5.mono (by simp; have := HW4.out.size; omega)))⟩
end Go.Proofs.Ytogkjaohphnflaa
