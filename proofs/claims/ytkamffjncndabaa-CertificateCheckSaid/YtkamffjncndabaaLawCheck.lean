/- The walk of CertificateCheck. -/
import Derived.Test.YtkamffjncndabaaCertTwo
namespace Go.Proofs.Ytkamffjncndabaa
open Go.RowKit
set_option maxRecDepth 100000 in
set_option maxHeartbeats 2000000 in
theorem certCheck_walk (A : Option Addr) (c : Nat) (ps : List Pc) (wd ind : Int) (B D : Option Addr) (st nums : List Int) (c2 c3 : Nat) (ch : Bool) (w : World) (hm : ps.length ≤ lenMax) (hP : Pcs w w.heap.size A ps) (hm1 : st.length ≤ lenMax) (hm2 : nums.length ≤ lenMax) (hS : Ints w w.heap.size B st) (hN : Ints w w.heap.size D nums) :
    Calls Try.prog 4 #[.slice A ps.length c, .agg #[.int .i64 wd, .int .i64 ind], .agg #[.slice B st.length c2, .slice D nums.length c3, .bool ch]] w fun e w' => e = .returned (.bool true) ∧ Below w.heap.size w w' := by
  have hm' : ps.length ≤ 9223372036854775807 := hm
  have hm1' : st.length ≤ 9223372036854775807 := hm1
  have hm2' : nums.length ≤ 9223372036854775807 := hm2
  have HM := Lib.hid (And.intro hm (And.intro hm1 hm2))
  have HP := Lib.hid hP
  have HS := Lib.hid hS
  have HN := Lib.hid hN
  clear hm hP hm1 hm2 hS hN
  have HB : Hid (Below w.heap.size w ((w.alloc (.cells #[.int .i64 wd, .int .i64 ind] 24)).alloc (.cells #[.slice B st.length c2, .slice D nums.length c3, .bool ch] 33))) := below_two _ _ _
  by_cases h70 : ps.length ≤ 70
  · by_cases h100 : st.length ≤ 100
    · by_cases h101 : nums.length ≤ 100
      · have hdec : decide ((70 : Int) < (ps.length : Int)) = false := decide_eq_false (by omega)
        have hdec1 : decide ((100 : Int) < (st.length : Int)) = false := decide_eq_false (by omega)
        have hdec2 : decide ((100 : Int) < (nums.length : Int)) = false := decide_eq_false (by omega)
        obtain ⟨l, hl⟩ : ∃ l, claimL ps wd ind nums ch = l := ⟨_, rfl⟩
        obtain ⟨r, hr⟩ := soundpar_dec ps wd ind l
        obtain ⟨rc, hrc⟩ := check_dec ps wd ind st l
        have hll : l.length ≤ 171 := by have := claimL_len ps wd ind nums ch; rw [hl] at this; omega
        have HLM : Hid (l.length ≤ lenMax) := by show _ ≤ _; unfold lenMax; omega
        have HL := Lib.hid (And.intro hl (And.intro hr hrc))
        have HDEC := Lib.hid (And.intro hdec (And.intro hdec1 hdec2))
        have h101' : nums.length ≤ 100 := h101
        have HR := Lib.hid (show r = true → l.length = ps.length + 1 from fun h => (hr.1 h).2.1)
        clear hl hr hrc
        go_enter Try.func4, Try.ntmps4
        go_wp2_with fail
        refine (cawake_any _).mono ?_
        rintro e w1 ⟨rfl, hb1⟩
        obtain ⟨⟨f0, f1⟩, g0, g1, g2⟩ := kept5 hb1
        have HB1 := Lib.hid hb1
        clear hb1
        go_wp2_with fail
        refine (pots_eq _ _ _ _ _ _ _ ps nums _ _ ch _ HL.out.1 HM.out.1 h101' (HP.out.next (below_next HB.out HB1.out)) (HN.out.next (below_next HB.out HB1.out))).mono ?_
        rintro e w2 ⟨⟨A2, d2, rfl, hI2⟩, hb2⟩
        have HI2 := Lib.hid hI2
        have HB2 := Lib.hid (below_next HB1.out hb2)
        clear hb2 f0 f1 g0 g1 g2 hI2 hdec hdec1 hdec2
        obtain ⟨⟨f0, f1⟩, g0, g1, g2⟩ := kept5 HB2.out
        go_wp2_with fail
        refine (rSound_any (r := r) _ _ _ _ ps l _ _ _ HM.out.1 HLM.out (HP.out.next (below_next HB.out HB2.out)) HI2.out HL.out.2.1).mono ?_
        rintro e w3 ⟨rfl, hb3⟩
        have HI3 := Lib.hid (HI2.out.next hb3)
        have HB3 := Lib.hid (below_next HB2.out hb3)
        clear hb3 f0 f1 g0 g1 g2
        obtain ⟨⟨f0, f1⟩, g0, g1, g2⟩ := kept5 HB3.out
        have hCK : ∀ W, Below w3.heap.size w3 W → Calls Try.prog 17 #[.slice A ps.length c, .int .i64 wd, .int .i64 ind, .slice B st.length c2, .slice A2 l.length d2] W fun e w' => e = .returned (.bool rc) ∧ Below W.heap.size W w' := fun W h =>
          Check_any A A2 B c d2 c2 ps st l wd ind W HM.out.1 HM.out.2.1 HLM.out (HP.out.next (below_next (below_next HB.out HB3.out) h)) (HS.out.next (below_next (below_next HB.out HB3.out) h)) (HI3.out.next h) HL.out.2.2
        have hRC : ∀ W, Below w3.heap.size w3 W → Calls Try.prog 18 #[.slice A ps.length c, .int .i64 wd, .int .i64 ind, .slice B st.length c2, .slice A2 l.length d2] W fun e w' => e = .returned (.bool rc) ∧ Below W.heap.size W w' := fun W h =>
          rCheck_any A A2 B c d2 c2 ps st l wd ind W HM.out.1 HM.out.2.1 HLM.out (HP.out.next (below_next (below_next HB.out HB3.out) h)) (HS.out.next (below_next (below_next HB.out HB3.out) h)) (HI3.out.next h) HL.out.2.2
        have HCK := Lib.hid hCK
        have HRC := Lib.hid hRC
        clear hCK hRC
        obtain ⟨x, hx⟩ : ∃ x, lAt l 0 = x := ⟨_, rfl⟩
        have hBD : ∀ W, Below w3.heap.size w3 W → Calls Try.prog 16 #[.slice A ps.length c, .int .i64 wd, .int .i64 ind, .slice A2 l.length d2] W fun e w' => e = .returned (.tuple #[.int .i64 (bif r then x else 0), .bool r]) ∧ Below W.heap.size W w' := fun W h => by
          rw [← hx]
          exact Bound_any A A2 c d2 ps l wd ind W HM.out.1 HLM.out (HP.out.next (below_next (below_next HB.out HB3.out) h)) (HI3.out.next h) HL.out.2.1
        have HBD := Lib.hid hBD
        clear hBD
        have hFIN : ∀ w4, Below w3.heap.size w3 w4 → Hid (∀ v : Bel w4.heap.size w4, (v.v.cell? ⟨w.heap.size, 0, none⟩ = some (.int .i64 wd) ∧ v.v.cell? ⟨w.heap.size, 1, none⟩ = some (.int .i64 ind) ∧ v.v.cell? ⟨w.heap.size + 1, 0, none⟩ = some (.slice B st.length c2)) ∧
            Calls Try.prog 17 #[.slice A ps.length c, .int .i64 wd, .int .i64 ind, .slice B st.length c2, .slice A2 l.length d2] v.v (fun e w' => e = .returned (.bool rc) ∧ ∃ v' : Bel w4.heap.size w4, w' = v'.v) ∧
            Calls Try.prog 18 #[.slice A ps.length c, .int .i64 wd, .int .i64 ind, .slice B st.length c2, .slice A2 l.length d2] v.v (fun e w' => e = .returned (.bool rc) ∧ ∃ v' : Bel w4.heap.size w4, w' = v'.v)) := fun w4 h4 v => by
          have h5 : Below w3.heap.size w3 v.v := below_next h4 v.h
          obtain ⟨⟨a0, a1⟩, a2, _, _⟩ := kept5 (below_next HB3.out h5)
          refine ⟨⟨a0, a1, a2⟩, (HCK.out _ h5).mono ?_, (HRC.out _ h5).mono ?_⟩
          · rintro e w' ⟨he, hb⟩
            exact ⟨he, ⟨w', below_next v.h hb⟩, rfl⟩
          · rintro e w' ⟨he, hb⟩
            exact ⟨he, ⟨w', below_next v.h hb⟩, rfl⟩
        have HFIN := Lib.hid hFIN
        clear hFIN
        cases r
        · clear hx
          go_wp2_with fail
          refine (HBD.out _ (Below.refl _ _)).mono ?_
          rintro e w4 ⟨rfl, hb4⟩
          simp only [cond_false]
          have HB4 := Lib.hid hb4
          have HF := HFIN.out w4 hb4
          clear hb4 f0 f1 g0 g1 g2
          go_wp2_with fail
          have y0 := fun v => (HF.out v).1.1
          have y1 := fun v => (HF.out v).1.2.1
          have y2 := fun v => (HF.out v).1.2.2
          refine wp_region_bel (by kernel_rfl) (by kernel_rfl) ?_
          repeat (go_big_quiet_step (first | (go_at_call 17; exact (HF.out _).2.1) | (go_at_call 18; exact (HF.out _).2.2)))
          refine wpQuiet_nil ?_
          rintro w' ⟨v, rfl⟩
          clear y0 y1 y2
          go_wp2
          go_ret
          exact ⟨by simp, below_next (below_next (below_next HB.out HB3.out) HB4.out) v.h⟩
        · have hll1 := HR.out rfl
          obtain ⟨b, off, rfl, hb, hc⟩ := HI3.out (by omega)
          have l0 := hc 0 (by omega)
          rw [Nat.add_zero, hx] at l0
          have b1 : (0 : Int) < (l.length : Int) := by omega
          have b2 : 0 < l.length := by omega
          clear hc hll1 hx
          go_wp2_with fail
          refine (HBD.out _ (Below.refl _ _)).mono ?_
          rintro e w4 ⟨rfl, hb4⟩
          simp only [cond_true]
          have HB4 := Lib.hid hb4
          have HF := HFIN.out w4 hb4
          clear hb4 f0 f1 g0 g1 g2 l0
          go_wp2_with fail
          have y0 := fun v => (HF.out v).1.1
          have y1 := fun v => (HF.out v).1.2.1
          have y2 := fun v => (HF.out v).1.2.2
          refine wp_region_bel (by kernel_rfl) (by kernel_rfl) ?_
          repeat (go_big_quiet_step (first | (go_at_call 17; exact (HF.out _).2.1) | (go_at_call 18; exact (HF.out _).2.2)))
          refine wpQuiet_nil ?_
          rintro w' ⟨v, rfl⟩
          clear y0 y1 y2
          go_wp2
          go_ret
          exact ⟨by simp, below_next (below_next (below_next HB.out HB3.out) HB4.out) v.h⟩
      · have hdec : decide ((70 : Int) < (ps.length : Int)) = false := decide_eq_false (by omega)
        have hdec1 : decide ((100 : Int) < (st.length : Int)) = false := decide_eq_false (by omega)
        have hdec2 : decide ((100 : Int) < (nums.length : Int)) = true := decide_eq_true (by omega)
        go_enter Try.func4, Try.ntmps4
        go_wp2_with fail
        refine (cawake_any _).mono ?_
        rintro e w1 ⟨rfl, hb1⟩
        obtain ⟨⟨f0, f1⟩, g0, g1, g2⟩ := kept5 hb1
        go_wp2
        go_ret
        exact ⟨rfl, below_next HB.out hb1⟩
    · have hdec : decide ((70 : Int) < (ps.length : Int)) = false := decide_eq_false (by omega)
      have hdec1 : decide ((100 : Int) < (st.length : Int)) = true := decide_eq_true (by omega)
      go_enter Try.func4, Try.ntmps4
      go_wp2_with fail
      refine (cawake_any _).mono ?_
      rintro e w1 ⟨rfl, hb1⟩
      obtain ⟨⟨f0, f1⟩, g0, g1, g2⟩ := kept5 hb1
      go_wp2
      go_ret
      exact ⟨rfl, below_next HB.out hb1⟩
  · have hdec : decide ((70 : Int) < (ps.length : Int)) = true := decide_eq_true (by omega)
    go_enter Try.func4, Try.ntmps4
    go_wp2_with fail
    refine (cawake_any _).mono ?_
    rintro e w1 ⟨rfl, hb1⟩
    go_wp2
    go_ret
    exact ⟨rfl, below_next HB.out hb1⟩
end Go.Proofs.Ytkamffjncndabaa
