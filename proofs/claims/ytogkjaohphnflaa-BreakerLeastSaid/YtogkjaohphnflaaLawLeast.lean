/- The walk of BreakerLeast. -/
import Derived.Test.YtogkjaohphnflaaBrkPick
namespace Go.Proofs.Ytogkjaohphnflaa
open Go.RowKit
def bAt (l : List Bool) (k : Nat) : Bool := l.getD k false
/-- The cells from A on, below block B, hold the bools l. -/
def Bools (w : World) (B : Nat) (A : Option Addr) (l : List Bool) : Prop :=
  0 < l.length → ∃ b off, A = some ⟨b, off, none⟩ ∧ b < B ∧ ∀ k, k < l.length → w.cell? ⟨b, off + k, none⟩ = some (.bool (bAt l k))
def pk (bits : List Bool) (i : Nat) : Bool := if i < bits.length then bAt bits i else decide (i % 2 = 0)
def stN (bits : List Bool) : Nat → List Nat
  | 0 => [0]
  | k + 1 => if pk bits (k + 1) = true then stN bits k ++ [k + 1] else stN bits k
theorem stN_ne (bits : List Bool) : ∀ k, stN bits k ≠ []
  | 0 => by simp [stN]
  | k + 1 => by
    unfold stN
    split
    · simp
    · exact stN_ne bits k
theorem stN_way (bits : List Bool) : ∀ k, IsP (k + 1) anyG 0 (stN bits k)
  | 0 => ⟨rfl, Nat.lt_succ_self _, Nat.le_refl _, rfl, rfl⟩
  | k + 1 => by
    unfold stN
    split
    · exact isP_snoc (stN_way bits k)
    · exact isP_more (stN_way bits k) (stN_ne bits k)
theorem stN_yes {bits : List Bool} {k : Nat} (h : pk bits (k + 1) = true) : stN bits (k + 1) = stN bits k ++ [k + 1] := by rw [stN, if_pos h]
theorem stN_no {bits : List Bool} {k : Nat} (h : pk bits (k + 1) = false) : stN bits (k + 1) = stN bits k := by rw [stN, if_neg (by rw [h]; simp)]
theorem Total_is {n' e' : Int} (A A2 : Option Addr) (c c2 : Nat) (ps : List Pc) (l : List Int) (wd ind : Int) (w : World) (hn : totN ps l wd ind = n') (he : totE ps l wd ind = e') (hm : ps.length ≤ lenMax) (hl : l.length ≤ lenMax) (hP : Pcs w w.heap.size A ps) (hI : Ints w w.heap.size A2 l) :
    Calls Try.prog 21 #[.slice A ps.length c, .slice A2 l.length c2, .int .i64 wd, .int .i64 ind] w fun e w' => e = .returned (.tuple #[.int .i64 n', .int .i64 e']) ∧ Below w.heap.size w w' := by
  rw [← hn, ← he]; exact Total_any A A2 c c2 ps l wd ind w hm hl hP hI
set_option maxRecDepth 100000 in
set_option maxHeartbeats 1000000 in
theorem breakerLeast_walk (A : Option Addr) (c : Nat) (ps : List Pc) (A2 : Option Addr) (c2 : Nat) (bits : List Bool) (wd ind ln : Int) (w : World) (hm : ps.length ≤ lenMax) (hP : Pcs w w.heap.size A ps) (hm2 : bits.length ≤ lenMax) (hI : Bools w w.heap.size A2 bits) :
    Calls Try.prog 7 #[.slice A ps.length c, .slice A2 bits.length c2, .agg #[.int .i64 wd, .int .i64 ind, .int .i64 ln]] w fun e w' => e = .returned (.bool true) ∧ Below w.heap.size w w' := by
  have hm' : ps.length ≤ 9223372036854775807 := hm
  have hm2' : bits.length ≤ 9223372036854775807 := hm2
  have HM := Lib.hid hm
  have HP := Lib.hid hP
  have HI := Lib.hid hI
  clear hm hP hm2 hI
  have HB : Hid (Below w.heap.size w (w.alloc (.cells #[.int .i64 wd, .int .i64 ind, .int .i64 ln] 24))) := (Below.refl _ _).alloc (Nat.le_refl _) _
  cases hv : parB ps wd ind
  · have HV := Lib.hid hv
    clear hv
    go_enter Try.func7, Try.ntmps7
    go_wp2_with fail
    refine (bawake_any _).mono ?_
    rintro e w1 ⟨rfl, hb1⟩
    have f0 := kept_box hb1 0 _ rfl
    have f1 := kept_box hb1 1 _ rfl
    have f2 := kept_box hb1 2 _ rfl
    go_wp2_with fail
    refine (fits_at _ _ ps _ _ _ _ HV.out HM.out (HP.out.next (below_next HB.out hb1))).mono ?_
    rintro e w2 ⟨rfl, hb2⟩
    go_wp2
    go_ret
    exact ⟨rfl, below_next HB.out (below_next hb1 hb2)⟩
  · have HV := Lib.hid hv
    have HVV := Lib.hid (parB_iff.1 hv).1
    have h64 := (validB_iff.1 HVV.out).1.2
    have h10 := (validB_iff.1 HVV.out).1.1
    have HBT := Lib.hid (best_tot hv)
    clear hv
    obtain ⟨i0, hi0, hz0, hz1, hz2⟩ := info_parts infoI
    go_enter Try.func7, Try.ntmps7
    go_wp2_with fail
    refine (bawake_any _).mono ?_
    rintro e w1 ⟨rfl, hb1⟩
    have f0 := kept_box hb1 0 _ rfl
    have f1 := kept_box hb1 1 _ rfl
    have f2 := kept_box hb1 2 _ rfl
    go_wp2_with fail
    refine (fits_at _ _ ps _ _ _ _ HV.out HM.out (HP.out.next (below_next HB.out hb1))).mono ?_
    rintro e w2 ⟨rfl, hb2⟩
    have HB2 := Lib.hid (below_next hb1 hb2)
    have HW2 : Hid (Below w.heap.size w w2) := below_next HB.out HB2.out
    clear hb1 hb2 f0 f1 f2
    go_wp2_with fail
    go_loopw [7, 8] (fun v q wr => ∃ (k : Nat) (A' : Option Addr) (c' : Nat), k + 1 ≤ ps.length ∧ q = .int .i64 ((k : Int) + 1) ∧ v = .slice A' (stN bits k).length c' ∧ Owns wr w2.heap.size 3 A' c' ((stN bits k).map Int.ofNat) ∧ Below w2.heap.size w2 wr) (fun _ q _ => ps.length - (intOf q).toNat)
    case atStart => exact ⟨0, _, _, h10, by go_num, rfl, Owns.one w2 3 0, (Below.refl _ _).alloc (Nat.le_refl _) _⟩
    case round =>
      obtain ⟨k, A', c', hk, rfl, rfl, hown, hnx⟩ := hrel
      have hway := stN_way bits k
      have hlen := isP_len hway
      have HO := Lib.hid hown
      have HWAY := Lib.hid hway
      clear hown hway
      by_cases hlt1 : k + 1 < ps.length
      · by_cases hlt2 : k + 1 < bits.length
        · obtain ⟨b, off, rfl, hB, hc⟩ := HI.out (by omega)
          have ck := ((HW2.out.trans (hnx.mono HW2.out.size)).cell (p := ⟨b, off + (k + 1), none⟩) hB).trans (hc (k + 1) hlt2)
          clear hc
          have hpk : pk bits (k + 1) = bAt bits (k + 1) := by unfold pk; rw [if_pos hlt2]
          have HPK := Lib.hid hpk
          clear hpk
          cases hbit : bAt bits (k + 1)
          · rw [hbit] at ck
            have HPN : Hid (pk bits (k + 1) = false) := HPK.out.trans hbit
            clear hbit
            go_wp2
            go_roundw
            case rel => exact ⟨k + 1, A', c', by omega, by go_num, by rw [stN_no HPN.out], by rw [stN_no HPN.out]; exact HO.out, hnx⟩
            case measure => simp [intOf]; omega
          · rw [hbit] at ck
            have HPN : Hid (pk bits (k + 1) = true) := HPK.out.trans hbit
            clear hbit
            go_wp2_with (at_builtin; refine wpList_append_one (z := ((k : Int) + 1)) rfl _ _ 27 3 rfl i0 Try.underlying27 hi0 hz0 hz1 hz2 (l := (stN bits k).map Int.ofNat) (by simp) rfl (HO.out.alloc _) rfl (heap_alloc_new _ _) (by simp; omega) (by have := hnx.size; simp; omega) ?_; intro A3 c3 w5 hown2 hb5)
            go_roundw
            case rel => exact ⟨k + 1, A3, c3, by omega, by go_num, by rw [stN_yes HPN.out, List.length_append]; rfl, by rw [stN_yes HPN.out, List.map_append]; exact hown2, (hnx.alloc hnx.size _).trans hb5⟩
            case measure => simp [intOf]; omega
        · have hpk : pk bits (k + 1) = decide ((k + 1) % 2 = 0) := by unfold pk; rw [if_neg hlt2]
          have HPK := Lib.hid hpk
          clear hpk
          by_cases hr : (k + 1) % 2 = 0
          · have HPN : Hid (pk bits (k + 1) = true) := HPK.out.trans (decide_eq_true hr)
            have ht : ((k : Int) + 1).tmod 2 = 0 := by rw [Int.tmod_eq_emod_of_nonneg (by omega)]; omega
            clear hr
            go_wp2_with (at_builtin; refine wpList_append_one (z := ((k : Int) + 1)) rfl _ _ 27 3 rfl i0 Try.underlying27 hi0 hz0 hz1 hz2 (l := (stN bits k).map Int.ofNat) (by simp) rfl (HO.out.alloc _) rfl (heap_alloc_new _ _) (by simp; omega) (by have := hnx.size; simp; omega) ?_; intro A3 c3 w5 hown2 hb5)
            go_roundw
            case rel => exact ⟨k + 1, A3, c3, by omega, by go_num, by rw [stN_yes HPN.out, List.length_append]; rfl, by rw [stN_yes HPN.out, List.map_append]; exact hown2, (hnx.alloc hnx.size _).trans hb5⟩
            case measure => simp [intOf]; omega
          · have HPN : Hid (pk bits (k + 1) = false) := HPK.out.trans (decide_eq_false hr)
            have ht : ((k : Int) + 1).tmod 2 = 1 := by rw [Int.tmod_eq_emod_of_nonneg (by omega)]; omega
            clear hr
            go_wp2
            go_roundw
            case rel => exact ⟨k + 1, A', c', by omega, by go_num, by rw [stN_no HPN.out], by rw [stN_no HPN.out]; exact HO.out, hnx⟩
            case measure => simp [intOf]; omega
      · have hkn : k + 1 = ps.length := by omega
        have hw := HWAY.out
        rw [hkn] at hw
        have hll := least_law HV.out hw
        obtain ⟨s, hs⟩ : ∃ s, stN bits k = s := ⟨_, rfl⟩
        rw [hs] at hll HO hlen ⊢
        obtain ⟨n2, hn2⟩ : ∃ x, totN ps (s.map Int.ofNat) wd ind = x := ⟨_, rfl⟩
        obtain ⟨e2, he2⟩ : ∃ x, totE ps (s.map Int.ofNat) wd ind = x := ⟨_, rfl⟩
        obtain ⟨t, ht⟩ : ∃ x, (bestT ps wd ind).dm = x := ⟨_, rfl⟩
        have hP64 : (bestP ps wd ind).length ≤ ps.length := isP_len (best_of (n := ps.length) (C := cC ps wd ind) (G := gG ps wd ind) (fun i _ => gG_one _ _ _ i) (i := 0) (Nat.zero_le _)).2.1
        have hbt := HBT.out
        rw [ht] at hbt hll
        rw [hn2, he2] at hll
        obtain ⟨P, hP'⟩ : ∃ x, bestP ps wd ind = x := ⟨_, rfl⟩
        rw [hP'] at hbt hP64
        have HN2 := Lib.hid hn2
        have HE2 := Lib.hid he2
        have HT := Lib.hid ht
        have HPP := Lib.hid hP'
        have HBT2 := Lib.hid hbt
        have hbr : Below w.heap.size w wr := HW2.out.trans (hnx.mono HW2.out.size)
        have HBR := Lib.hid hbr
        have f0 := kept_box (below_next HB2.out hnx) 0 _ rfl
        have f1 := kept_box (below_next HB2.out hnx) 1 _ rfl
        have HNX := Lib.hid (below_next HB2.out hnx)
        clear hn2 he2 ht hP' hbt hw hs hbr
        go_wp2_with fail
        refine (Best_is _ _ ps _ _ _ HV.out HPP.out HT.out (HP.out.next HBR.out)).mono ?_
        rintro e w4 ⟨⟨A4, c4, rfl, hI4⟩, hb4⟩
        have HI4 := Lib.hid hI4
        have HN4 := Lib.hid (below_next HNX.out hb4)
        have HW4 : Hid (Below w.heap.size w w4) := below_next HBR.out hb4
        have HS4 := Lib.hid (HO.out.ints.next hb4)
        clear hI4 hb4 f0 f1
        have f0 := kept_box HN4.out 0 _ rfl
        have f1 := kept_box HN4.out 1 _ rfl
        go_wp2_with fail
        have HC := Total_is A A4 c c4 ps (P.map Int.ofNat) wd ind w4 HBT2.out.2 HBT2.out.1 HM.out (by simp; unfold lenMax; omega) (HP.out.next HW4.out) HI4.out
        rw [List.length_map] at HC
        refine HC.mono ?_
        rintro e w5 ⟨rfl, hb5⟩
        have HN5 := Lib.hid (below_next HN4.out hb5)
        have HW5 : Hid (Below w.heap.size w w5) := below_next HW4.out hb5
        have HS5 := Lib.hid (HS4.out.next hb5)
        clear hb5 f0 f1 HC
        have f0 := kept_box HN5.out 0 _ rfl
        have f1 := kept_box HN5.out 1 _ rfl
        go_wp2_with fail
        have HC := Total_is A A' c c' ps (s.map Int.ofNat) wd ind w5 HN2.out HE2.out HM.out (by simp; unfold lenMax; omega) (HP.out.next HW5.out) HS5.out
        rw [List.length_map] at HC
        refine HC.mono ?_
        rintro e w6 ⟨rfl, hb6⟩
        rcases hll with ⟨rfl, rfl⟩ | ⟨rfl, hle⟩
        · go_wp2
          go_ret
          exact ⟨rfl, below_next HW5.out hb6⟩
        · go_wp2
          go_ret
          exact ⟨rfl, below_next HW5.out hb6⟩
end Go.Proofs.Ytogkjaohphnflaa
