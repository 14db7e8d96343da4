/- The walk of CertificateRest. -/
import Derived.Test.YtkamffjncndabaaLawCBest
import Derived.Deep.RegionHeld3
namespace Go.Proofs.Ytkamffjncndabaa
open Go.RowKit
theorem pcs_drop {w : World} {B b o : Nat} {ps : List Pc} (h : Pcs w B (some ⟨b, o, none⟩) ps) {s : Nat} (hs : s < ps.length) : Pcs w B (some ⟨b, o + s * 3, none⟩) (ps.drop s) := fun _ => by
  obtain ⟨b', o', he, hB, hc⟩ := h (by omega)
  cases he
  refine ⟨b, o + s * 3, rfl, hB, fun k hk => ?_⟩
  rw [List.length_drop] at hk
  have := hc (s + k) (by omega)
  rw [wd_drop, sp_drop, pn_drop, show o + s * 3 + k * 3 = o + (s + k) * 3 by omega]
  exact this
theorem rest_pot {ps : List Pc} {wd ind : Int} (hp : parB ps wd ind = true) {s : Nat} (h0 : 0 < s) (hs : s < ps.length) : pT ps wd ind s = pT (ps.drop s) (wd - ind) 0 0 + pnAt ps s := (tails_law (parB_iff.1 hp).1 h0 hs).2
set_option maxRecDepth 100000 in
set_option maxHeartbeats 2000000 in
theorem certRest_walk (A : Option Addr) (c : Nat) (ps : List Pc) (wd ind x : Int) (w : World) (hm : ps.length ≤ lenMax) (hP : Pcs w w.heap.size A ps) (hcap : ps.length ≤ c) (hcm : c ≤ lenMax) (hx0 : 0 ≤ x) (hx1 : x ≤ 255) :
    Calls Try.prog 9 #[.slice A ps.length c, .agg #[.int .i64 wd, .int .i64 ind], .int .u8 x] w fun e w' => e = .returned (.bool true) ∧ Below w.heap.size w w' := by
  have hm' : ps.length ≤ 9223372036854775807 := hm
  have hcm' : c ≤ 9223372036854775807 := hcm
  have HM := Lib.hid hm
  have HP := Lib.hid hP
  clear hm hP hcm
  have HB : Hid (Below w.heap.size w (w.alloc (.cells #[.int .i64 wd, .int .i64 ind] 24))) := (Below.refl _ _).alloc (Nat.le_refl _) _
  by_cases h2 : 2 ≤ ps.length ∧ ps.length ≤ 70
  · obtain ⟨h2, h70⟩ := h2
    have hdec : decide ((70 : Int) < (ps.length : Int)) = false := decide_eq_false (by omega)
    have hdec2 : decide ((ps.length : Int) < 2) = false := decide_eq_false (by omega)
    cases hv : parB ps wd ind
    · have HV := Lib.hid hv
      clear hv
      go_enter Try.func9, Try.ntmps9
      go_wp2_with fail
      refine (cawake_any _).mono ?_
      rintro e w1 ⟨rfl, hb1⟩
      have f0 := kept_box hb1 0 _ rfl
      have f1 := kept_box hb1 1 _ rfl
      go_wp2_with fail
      refine (rfits_par _ _ ps _ _ _ HV.out HM.out (HP.out.next (below_next HB.out hb1))).mono ?_
      rintro e w2 ⟨rfl, hb2⟩
      go_wp2
      go_ret
      exact ⟨rfl, below_next (below_next HB.out hb1) hb2⟩
    · have HV := Lib.hid hv
      have hff := fitsB_iff.1 (parB_iff.1 hv).2
      have h64 := (validB_iff.1 (parB_iff.1 hv).1).1.2
      obtain ⟨i, hi⟩ : ∃ i : Nat, 1 + x % ((ps.length : Int) - 1) = (i : Int) := ⟨(1 + x % ((ps.length : Int) - 1)).toNat, by have := Int.emod_nonneg x (show (ps.length : Int) - 1 ≠ 0 by omega); omega⟩
      have hi1 : 1 ≤ i ∧ i < ps.length := by
        have h1 := Int.emod_nonneg x (show (ps.length : Int) - 1 ≠ 0 by omega)
        have h2 := Int.emod_lt_of_pos x (show (0 : Int) < (ps.length : Int) - 1 by omega)
        omega
      have hi1a := hi1.1
      have hi1b := hi1.2
      have hpd := par_drop hv hi1b
      have HPD := Lib.hid hpd
      have hrest := rest_pot hv (show 0 < i by omega) hi1b
      have hpn := allOk_at (validB_iff.1 (parB_iff.1 hv).1).2 hi1b
      have hn1 := hpn.2.2.2.2.1
      have hn2 := hpn.2.2.2.2.2
      have hk0 := pT_bound (parB_iff.1 hpd).1 (parB_iff.1 hpd).2 (Nat.zero_le _)
      have hkk1 := hk0.1
      have hkk2 := hk0.2
      obtain ⟨l, hl⟩ : ∃ l, potL ps wd ind = l := ⟨_, rfl⟩
      obtain ⟨k, hk⟩ : ∃ k, potL (ps.drop i) (wd - ind) 0 = k := ⟨_, rfl⟩
      obtain ⟨z, hz⟩ : ∃ z, pT (ps.drop i) (wd - ind) 0 0 = z := ⟨_, rfl⟩
      obtain ⟨y, hy⟩ : ∃ y, pnAt ps i = y := ⟨_, rfl⟩
      rw [hz] at hrest hkk1 hkk2
      rw [hy] at hrest hn1 hn2
      have hli : lAt l i = z + y := by rw [← hl, potL_at _ _ _ (by omega), hrest]
      have hki : lAt k 0 = z := by rw [← hk, potL_at _ _ _ (Nat.zero_le _), hz]
      have hll : l.length = ps.length + 1 := by rw [← hl, potL_len]
      have hkl : k.length = ps.length - i + 1 := by rw [← hk, potL_len, List.length_drop]
      obtain ⟨P, hPP⟩ : ∃ P, bestP (ps.drop i) (wd - ind) 0 = P := ⟨_, rfl⟩
      have HL := Lib.hid (And.intro hl (And.intro hli hll))
      have HK := Lib.hid (And.intro hk (And.intro hki hkl))
      have HZ := Lib.hid (And.intro hz (And.intro hy hPP))
      have hsub : IntKind.i64.wrap (wd - ind) = wd - ind := IntWalk.i64_in _ (by omega)
      have s1 : IntKind.i64.wrap (z + y) = z + y := IntWalk.i64_in _ (by omega)
      have n0 : ¬ (ps.length : Int) - 1 = 0 := by omega
      have n1 : (0 : Int) ≤ (ps.length : Int) - 1 := by omega
      have n2 : (0 : Int) < (ps.length : Int) - 1 := by omega
      have hce : ¬ c = i := by omega
      have hx2 : ((i : Int) ≤ (ps.length : Int)) := by omega
      have hie : (i : Int) < (ps.length : Int) + 1 := by omega
      have hie2 : (i : Int) < (ps.length : Int) := by omega
      clear hv hi1 hpd hrest hpn hk0 hl hk hz hy hli hki hll hkl hPP
      obtain ⟨bP, oP, rfl, hbP, hcP⟩ := HP.out (by omega)
      have HCP := Lib.hid (hcP i hi1b)
      clear hcP
      go_enter Try.func9, Try.ntmps9
      go_wp2_with fail
      refine (cawake_any _).mono ?_
      rintro e w1 ⟨rfl, hb1⟩
      have f0 := kept_box hb1 0 _ rfl
      have f1 := kept_box hb1 1 _ rfl
      have HB1 := Lib.hid hb1
      clear hb1
      go_wp2_with fail
      refine (rfits_par _ _ ps _ _ _ HV.out HM.out (HP.out.next (below_next HB.out HB1.out))).mono ?_
      rintro e w2 ⟨rfl, hb2⟩
      have HB2 := Lib.hid (below_next HB1.out hb2)
      clear hb2 f0 f1
      have f0 := kept_box HB2.out 0 _ rfl
      have f1 := kept_box HB2.out 1 _ rfl
      go_wp2_with fail
      refine (Make_len _ _ ps _ _ _ HV.out HL.out.1 rfl (HP.out.next (below_next HB.out HB2.out))).mono ?_
      rintro e w3 ⟨⟨A3, c3, rfl, hI3⟩, hb3⟩
      have HI3 := Lib.hid hI3
      have HB3 := Lib.hid (below_next HB2.out hb3)
      have hbox : w.heap.size < w3.heap.size := by have := HB3.out.size; simp at this; omega
      clear hI3 hb3 f0 f1
      have f0 := kept_box HB3.out 0 _ rfl
      have f1 := kept_box HB3.out 1 _ rfl
      have HW3 : Hid (Below w.heap.size w w3) := below_next HB.out HB3.out
      have HMK : Hid (∀ X, Pcs X X.heap.size (some ⟨bP, oP + i * 3, none⟩) (ps.drop i) → Calls Try.prog 11 #[.slice (some ⟨bP, oP + i * 3, none⟩) (ps.length - i) (c - i), .int .i64 (wd - ind), .int .i64 0] X fun e w' =>
          (∃ A' c', e = .returned (.tuple #[.slice A' (ps.length - i + 1) c', .int .i64 0]) ∧ Ints w' w'.heap.size A' k) ∧ Below X.heap.size X w') := fun X hX => by
        have := Make_len (n := ps.length - i + 1) (some ⟨bP, oP + i * 3, none⟩) (c - i) (ps.drop i) (wd - ind) 0 X HPD.out HK.out.1 (by rw [List.length_drop]) hX
        rw [List.length_drop] at this
        exact this
      have HBT : Hid (∀ X, Pcs X X.heap.size (some ⟨bP, oP + i * 3, none⟩) (ps.drop i) → Calls Try.prog 22 #[.slice (some ⟨bP, oP + i * 3, none⟩) (ps.length - i) (c - i), .int .i64 (wd - ind), .int .i64 0] X fun e w' =>
          (∃ A' c', e = .returned (.tuple #[.slice A' P.length c', .int .i64 z, .int .i64 0]) ∧ Ints w' w'.heap.size A' (P.map Int.ofNat)) ∧ Below X.heap.size X w') := fun X hX => by
        have := Best_is (some ⟨bP, oP + i * 3, none⟩) (c - i) (ps.drop i) (wd - ind) 0 X HPD.out HZ.out.2.2 HZ.out.1 hX
        rw [List.length_drop] at this
        exact this
      go_wp2_with fail
      go_region_held3 (fun W => W.cell? ⟨w.heap.size, 0, none⟩ = some (.int .i64 wd) ∧ W.cell? ⟨w.heap.size, 1, none⟩ = some (.int .i64 ind)) (go_keep)
        (first
          | (go_at_call 11; refine (HMK.out _ (pcs_drop (HP.out.next HW3.out.drew) hi1b)).mono ?_; rintro e w4 ⟨⟨A4, c4, rfl, hI4⟩, hb4⟩
             have hb4' : Below w3.heap.size w3 w4 := (Below.refl _ w3).drew.trans hb4
             have f0' := (hb4'.cell (p := ⟨w.heap.size, 0, none⟩) hbox).trans f0
             have f1' := (hb4'.cell (p := ⟨w.heap.size, 1, none⟩) hbox).trans f1))
      clear f0 f1 hb4
      have HI4 := Lib.hid hI4
      clear hI4
      have HW4 : Hid (Below w.heap.size w w4) := below_next HW3.out hb4'
      have hbox4 : w.heap.size < w4.heap.size := by have := hb4'.size; omega
      have HB34 := Lib.hid hb4'
      clear hb4'
      go_wp2_with fail
      go_region_held3 (fun W => W.cell? ⟨w.heap.size, 0, none⟩ = some (.int .i64 wd) ∧ W.cell? ⟨w.heap.size, 1, none⟩ = some (.int .i64 ind)) (go_keep)
        (first
          | (go_at_call 22; refine (HBT.out _ (pcs_drop (HP.out.next HW4.out.drew) hi1b)).mono ?_; rintro e w5 ⟨⟨A5, c5, rfl, hI5⟩, hb5⟩
             have hb5' : Below w4.heap.size w4 w5 := (Below.refl _ w4).drew.trans hb5
             have f0'' := (hb5'.cell (p := ⟨w.heap.size, 0, none⟩) hbox4).trans f0'
             have f1'' := (hb5'.cell (p := ⟨w.heap.size, 1, none⟩) hbox4).trans f1'))
      clear f0' f1' hb5 f0'' f1'' hI5
      have HW5 : Hid (Below w.heap.size w w5) := below_next HW4.out hb5'
      obtain ⟨b3, o3, rfl, hb3, hc3⟩ := HI3.out (by have := HL.out.2.2; omega)
      obtain ⟨b4, o4, rfl, hb4, hc4⟩ := HI4.out (by have := HK.out.2.2; omega)
      have m3 := (((below_next HB34.out hb5').cell (p := ⟨b3, o3 + i, none⟩) hb3).trans (hc3 i (by have := HL.out.2.2; omega)))
      have m4 := ((hb5'.cell (p := ⟨b4, o4 + 0, none⟩) hb4).trans (hc4 0 (by have := HK.out.2.2; omega)))
      rw [HL.out.2.1] at m3
      rw [HK.out.2.1, Nat.add_zero] at m4
      have p2 : w5.cell? ⟨bP, oP + i * 3 + 2, none⟩ = some (.int .i64 y) := by
        rw [← HZ.out.2.1]
        exact (HW5.out.cell (p := ⟨bP, oP + i * 3 + 2, none⟩) hbP).trans HCP.out.2.2
      have s2 : IntKind.i64.wrap ((ps.length : Int) - (i : Int)) = (ps.length : Int) - (i : Int) := IntWalk.i64_in _ (by omega)
      have s3 : IntKind.i64.wrap ((ps.length : Int) - (i : Int) + 1) = (ps.length : Int) - (i : Int) + 1 := IntWalk.i64_in _ (by omega)
      have s4 : IntKind.i64.wrap ((ps.length : Int) + 1) = (ps.length : Int) + 1 := IntWalk.i64_in _ (by omega)
      have s5 : ((ps.length - i : Nat) : Int) = (ps.length : Int) - (i : Int) := by omega
      have s6 : ((ps.length - i + 1 : Nat) : Int) = (ps.length : Int) - (i : Int) + 1 := by omega
      have s7 : (0 : Int) < (ps.length : Int) - (i : Int) + 1 := by omega
      have s8 : 0 < ps.length - i + 1 := by omega
      clear hb3 hc3 hb4 hc4 hb5'
      go_wp2_with fail
      go_quiet (fail)
      go_wp2
      go_ret
      exact ⟨rfl, below_drewN HW5.out _⟩
  · by_cases h2 : ps.length < 2
    · go_enter Try.func9, Try.ntmps9
      go_wp2_with fail
      refine (cawake_any _).mono ?_
      rintro e w1 ⟨rfl, hb1⟩
      go_wp2
      go_ret
      exact ⟨rfl, below_next HB.out hb1⟩
    · have h3 : 70 < ps.length := by omega
      have hdec2 : decide ((ps.length : Int) < 2) = false := decide_eq_false (by omega)
      go_enter Try.func9, Try.ntmps9
      go_wp2_with fail
      refine (cawake_any _).mono ?_
      rintro e w1 ⟨rfl, hb1⟩
      go_wp2
      go_ret
      exact ⟨rfl, below_next HB.out hb1⟩
end Go.Proofs.Ytkamffjncndabaa
