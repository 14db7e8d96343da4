/- The walk of CertificateBest. -/
import Derived.Test.YtkamffjncndabaaCertAwake
namespace Go.Proofs.Ytkamffjncndabaa
open Go.RowKit
theorem Best_is {P : List Nat} {t : Int} (A : Option Addr) (c : Nat) (ps : List Pc) (wd ind : Int) (w : World) (hv : parB ps wd ind = true) (hp : bestP ps wd ind = P) (ht : (bestT ps wd ind).dm = t) (hP : Pcs w w.heap.size A ps) :
    Calls Try.prog 22 #[.slice A ps.length c, .int .i64 wd, .int .i64 ind] w fun e w' =>
      (∃ A' c', e = .returned (.tuple #[.slice A' P.length c', .int .i64 t, .int .i64 0]) ∧ Ints w' w'.heap.size A' (P.map Int.ofNat)) ∧ Below w.heap.size w w' := by
  rw [← hp, ← ht]; exact Best_yes A c ps wd ind w (parB_iff.1 hv).1 (parB_iff.1 hv).2 hP
theorem Make_len {l : List Int} {n : Nat} (A : Option Addr) (c : Nat) (ps : List Pc) (wd ind : Int) (w : World) (hp : parB ps wd ind = true) (hl : potL ps wd ind = l) (hn : ps.length + 1 = n) (hP : Pcs w w.heap.size A ps) :
    Calls Try.prog 11 #[.slice A ps.length c, .int .i64 wd, .int .i64 ind] w fun e w' => (∃ A' c', e = .returned (.tuple #[.slice A' n c', .int .i64 0]) ∧ Ints w' w'.heap.size A' l) ∧ Below w.heap.size w w' := by
  subst hl
  subst hn
  refine (Make_yes A c ps wd ind w hp hP).mono ?_
  rintro e w' ⟨⟨A', c', he, hI⟩, hb⟩
  exact ⟨⟨A', c', by rw [he, potL_len], hI⟩, hb⟩
theorem Check_len {r : Bool} {n m : Nat} (A A2 A3 : Option Addr) (c c2 c3 : Nat) (ps : List Pc) (st l : List Int) (wd ind : Int) (w : World) (hn : st.length = n) (hl : l.length = m) (hm : ps.length ≤ lenMax) (hm2 : n ≤ lenMax) (hm3 : m ≤ lenMax) (hP : Pcs w w.heap.size A ps) (hI : Ints w w.heap.size A3 st) (hL : Ints w w.heap.size A2 l) (hr : r = true ↔ CheckP ps wd ind st l) :
    Calls Try.prog 17 #[.slice A ps.length c, .int .i64 wd, .int .i64 ind, .slice A3 n c3, .slice A2 m c2] w fun e w' => e = .returned (.bool r) ∧ Below w.heap.size w w' := by
  subst hn hl; exact Check_any A A2 A3 c c2 c3 ps st l wd ind w hm hm2 hm3 hP hI hL hr
theorem best_check {ps : List Pc} {wd ind : Int} (hp : parB ps wd ind = true) : CheckP ps wd ind ((bestP ps wd ind).map Int.ofNat) (potL ps wd ind) := by
  obtain ⟨h1, h2⟩ := best_tot hp
  exact ⟨hp, sound_least (parB_iff.1 hp).1 (parB_iff.1 hp).2, tight_of_least hp h1 h2⟩
theorem bestP_len {ps : List Pc} {wd ind : Int} (hp : parB ps wd ind = true) : (bestP ps wd ind).length ≤ ps.length :=
  isP_len (best_of (C := cC ps wd ind) (fun i _ => gG_one ps wd ind i) (Nat.zero_le ps.length)).2.1
set_option maxRecDepth 100000 in
set_option maxHeartbeats 1000000 in
theorem certBest_walk (A : Option Addr) (c : Nat) (ps : List Pc) (wd ind : Int) (w : World) (hm : ps.length ≤ lenMax) (hP : Pcs w w.heap.size A ps) :
    Calls Try.prog 8 #[.slice A ps.length c, .agg #[.int .i64 wd, .int .i64 ind]] w fun e w' => e = .returned (.bool true) ∧ Below w.heap.size w w' := by
  have hm' : ps.length ≤ 9223372036854775807 := hm
  have HM := Lib.hid hm
  have HP := Lib.hid hP
  clear hm hP
  have HB : Hid (Below w.heap.size w (w.alloc (.cells #[.int .i64 wd, .int .i64 ind] 24))) := (Below.refl _ _).alloc (Nat.le_refl _) _
  by_cases h70 : ps.length ≤ 70
  · have hdec : decide ((70 : Int) < (ps.length : Int)) = false := decide_eq_false (by omega)
    cases hv : parB ps wd ind
    · have HV := Lib.hid hv
      clear hv
      go_enter Try.func8, Try.ntmps8
      go_wp2_with fail
      refine (cawake_any _).mono ?_
      rintro e w1 ⟨rfl, hb1⟩
      have f0 := kept_box hb1 0 _ rfl
      have f1 := kept_box hb1 1 _ rfl
      go_wp2_with fail
      refine (rfits_par _ _ ps _ _ _ HV.out HM.out (HP.out.next (below_next HB.out hb1))).mono ?_
      rintro e w2 ⟨rfl, hb2⟩
      go_wp2
      go_ret
      exact ⟨rfl, below_next (below_next HB.out hb1) hb2⟩
    · have HV := Lib.hid hv
      have HCK := Lib.hid (best_check hv)
      have hPl := bestP_len hv
      obtain ⟨P, hPP⟩ : ∃ P, bestP ps wd ind = P := ⟨_, rfl⟩
      obtain ⟨l, hl⟩ : ∃ l, potL ps wd ind = l := ⟨_, rfl⟩
      obtain ⟨t, ht⟩ : ∃ t, (bestT ps wd ind).dm = t := ⟨_, rfl⟩
      have hl0 : lAt l 0 = t := by rw [← hl, potL_at _ _ _ (Nat.zero_le _)]; exact ht
      have hll : l.length = ps.length + 1 := by rw [← hl, potL_len]
      rw [hPP] at hPl
      have HPL := Lib.hid (And.intro hPP (And.intro hl (And.intro ht (And.intro hl0 hll))))
      clear hv hPP hl ht hl0 hll
      go_enter Try.func8, Try.ntmps8
      go_wp2_with fail
      refine (cawake_any _).mono ?_
      rintro e w1 ⟨rfl, hb1⟩
      have f0 := kept_box hb1 0 _ rfl
      have f1 := kept_box hb1 1 _ rfl
      have HB1 := Lib.hid hb1
      clear hb1
      go_wp2_with fail
      refine (rfits_par _ _ ps _ _ _ HV.out HM.out (HP.out.next (below_next HB.out HB1.out))).mono ?_
      rintro e w2 ⟨rfl, hb2⟩
      have HB2 := Lib.hid (below_next HB1.out hb2)
      clear hb2 f0 f1
      have f0 := kept_box HB2.out 0 _ rfl
      have f1 := kept_box HB2.out 1 _ rfl
      go_wp2_with fail
      refine (Make_len _ _ ps _ _ _ HV.out HPL.out.2.1 rfl (HP.out.next (below_next HB.out HB2.out))).mono ?_
      rintro e w3 ⟨⟨A3, c3, rfl, hI3⟩, hb3⟩
      have HI3 := Lib.hid hI3
      have HB3 := Lib.hid (below_next HB2.out hb3)
      clear hI3 hb3 f0 f1
      have f0 := kept_box HB3.out 0 _ rfl
      have f1 := kept_box HB3.out 1 _ rfl
      go_wp2_with fail
      refine (Best_is _ _ ps _ _ _ HV.out HPL.out.1 HPL.out.2.2.1 (HP.out.next (below_next HB.out HB3.out))).mono ?_
      rintro e w4 ⟨⟨A4, c4, rfl, hI4⟩, hb4⟩
      have HI4 := Lib.hid hI4
      have HI34 := Lib.hid (HI3.out.next hb4)
      have HB4 := Lib.hid (below_next HB3.out hb4)
      clear hI4 hb4 f0 f1
      have f0 := kept_box HB4.out 0 _ rfl
      have f1 := kept_box HB4.out 1 _ rfl
      obtain ⟨b, off, rfl, hb, hc⟩ := HI34.out (by rw [HPL.out.2.2.2.2]; omega)
      have l0 := hc 0 (by rw [HPL.out.2.2.2.2]; omega)
      rw [Nat.add_zero, HPL.out.2.2.2.1] at l0
      clear hc
      have b1 : (0 : Int) < (ps.length : Int) + 1 := by omega
      go_wp2_with fail
      refine (Check_len (r := true) A (some ⟨b, off, none⟩) A4 c c3 c4 ps (P.map Int.ofNat) l _ _ _ (by rw [List.length_map]) HPL.out.2.2.2.2 HM.out (by unfold lenMax; omega) (by unfold lenMax; omega) (HP.out.next (below_next HB.out HB4.out)) HI4.out HI34.out
        ⟨fun _ => by have := HCK.out; rw [HPL.out.1, HPL.out.2.1] at this; exact this, fun _ => rfl⟩).mono ?_
      rintro e w5 ⟨rfl, hb5⟩
      go_wp2
      go_ret
      exact ⟨rfl, below_next (below_next HB.out HB4.out) hb5⟩
  · go_enter Try.func8, Try.ntmps8
    go_wp2_with fail
    refine (cawake_any _).mono ?_
    rintro e w1 ⟨rfl, hb1⟩
    go_wp2
    go_ret
    exact ⟨rfl, below_next HB.out hb1⟩
end Go.Proofs.Ytkamffjncndabaa
