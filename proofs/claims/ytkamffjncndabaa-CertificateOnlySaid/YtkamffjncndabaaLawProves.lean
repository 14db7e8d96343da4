/- The walk of CertificateProves. -/
import Derived.Test.YtkamffjncndabaaLawGreatest
namespace Go.Proofs.Ytkamffjncndabaa
open Go.RowKit
theorem Total_eq {t e' : Int} {n : Nat} (A A2 : Option Addr) (c c2 : Nat) (ps : List Pc) (l : List Int) (wd ind : Int) (w : World) (ht : totN ps l wd ind = t) (he : totE ps l wd ind = e') (hn : l.length = n) (hm : ps.length ≤ lenMax) (hl : n ≤ lenMax) (hP : Pcs w w.heap.size A ps) (hI : Ints w w.heap.size A2 l) :
    Calls Try.prog 20 #[.slice A ps.length c, .slice A2 n c2, .int .i64 wd, .int .i64 ind] w fun e w' => e = .returned (.tuple #[.int .i64 t, .int .i64 e']) ∧ Below w.heap.size w w' := by
  subst hn; rw [← ht, ← he]; exact Total_any A A2 c c2 ps l wd ind w hm hl hP hI
set_option maxRecDepth 100000 in
set_option maxHeartbeats 2000000 in
theorem certProves_walk (A : Option Addr) (c : Nat) (ps : List Pc) (wd ind : Int) (B D : Option Addr) (st nums : List Int) (c2 c3 : Nat) (ch : Bool) (w : World) (hm : ps.length ≤ lenMax) (hP : Pcs w w.heap.size A ps) (hm1 : st.length ≤ lenMax) (hm2 : nums.length ≤ lenMax) (hS : Ints w w.heap.size B st) (hN : Ints w w.heap.size D nums) :
    Calls Try.prog 6 #[.slice A ps.length c, .agg #[.int .i64 wd, .int .i64 ind], .agg #[.slice B st.length c2, .slice D nums.length c3, .bool ch]] w fun e w' => e = .returned (.bool true) ∧ Below w.heap.size w w' := by
  have hm' : ps.length ≤ 9223372036854775807 := hm
  have hm1' : st.length ≤ 9223372036854775807 := hm1
  have hm2' : nums.length ≤ 9223372036854775807 := hm2
  have HM := Lib.hid (And.intro hm (And.intro hm1 hm2))
  have HP := Lib.hid hP
  have HS := Lib.hid hS
  have HN := Lib.hid hN
  clear hm hP hm1 hm2 hS hN
  have HB : Hid (Below w.heap.size w ((w.alloc (.cells #[.int .i64 wd, .int .i64 ind] 24)).alloc (.cells #[.slice B st.length c2, .slice D nums.length c3, .bool ch] 33))) := below_two _ _ _
  by_cases h70 : ps.length ≤ 70
  · by_cases h100 : st.length ≤ 100
    · by_cases h101 : nums.length ≤ 100
      · have hdec : decide ((70 : Int) < (ps.length : Int)) = false := decide_eq_false (by omega)
        have hdec1 : decide ((100 : Int) < (st.length : Int)) = false := decide_eq_false (by omega)
        have hdec2 : decide ((100 : Int) < (nums.length : Int)) = false := decide_eq_false (by omega)
        have h101' : nums.length ≤ 100 := h101
        cases hv : parB ps wd ind
        · have HV := Lib.hid hv
          clear hv
          go_enter Try.func6, Try.ntmps6
          go_wp2_with fail
          refine (cawake_any _).mono ?_
          rintro e w1 ⟨rfl, hb1⟩
          obtain ⟨⟨f0, f1⟩, g0, g1, g2⟩ := kept5 hb1
          go_wp2_with fail
          refine (rfits_par _ _ ps _ _ _ HV.out HM.out.1 (HP.out.next (below_next HB.out hb1))).mono ?_
          rintro e w2 ⟨rfl, hb2⟩
          go_wp2
          go_ret
          exact ⟨rfl, below_next (below_next HB.out hb1) hb2⟩
        · have HV := Lib.hid hv
          obtain ⟨l, hl⟩ : ∃ l, claimL ps wd ind nums ch = l := ⟨_, rfl⟩
          obtain ⟨r, hr⟩ := soundpar_dec ps wd ind l
          obtain ⟨rc, hrc⟩ := check_dec ps wd ind st l
          have hll : l.length ≤ 171 := by have := claimL_len ps wd ind nums ch; rw [hl] at this; omega
          have HLM : Hid (l.length ≤ lenMax) := by show _ ≤ _; unfold lenMax; omega
          obtain ⟨x, hx⟩ : ∃ x, lAt l 0 = x := ⟨_, rfl⟩
          obtain ⟨t, ht⟩ : ∃ t, totN ps st wd ind = t := ⟨_, rfl⟩
          obtain ⟨E, hE⟩ : ∃ E, totE ps st wd ind = E := ⟨_, rfl⟩
          have hcase : (rc = false ∧ (r = false ∨ E ≠ 0)) ∨ (r = true ∧ E = 0 ∧ x ≤ t ∧ (rc = false ∨ (rc = true ∧ x = t))) := by
            by_cases hr1 : r = true
            · by_cases hE0 : E = 0
              · right
                obtain ⟨p1, p2⟩ := proves_law hv (hr.1 hr1).2 (hE.trans hE0)
                rw [hx, ht] at p1 p2
                refine ⟨hr1, hE0, p1, ?_⟩
                cases hc : rc with
                | false => exact .inl rfl
                | true => exact .inr ⟨rfl, p2 (hrc.1 hc).2.2.2⟩
              · left
                refine ⟨?_, .inr hE0⟩
                cases hc : rc with
                | false => rfl
                | true => exact absurd (hE.symm.trans (tight_legal hv (hrc.1 hc).2.2.1 (hrc.1 hc).2.2.2)) hE0
            · left
              refine ⟨?_, .inl (by simpa using hr1)⟩
              cases hc : rc with
              | false => rfl
              | true => exact absurd (hr.2 ⟨hv, (hrc.1 hc).2.1⟩) hr1
          have HCASE := Lib.hid hcase
          have HL := Lib.hid (And.intro hl (And.intro hr hrc))
          have HX := Lib.hid (And.intro hx (And.intro ht hE))
          clear hl hr hrc hx ht hE hcase hv hll
          go_enter Try.func6, Try.ntmps6
          go_wp2_with fail
          refine (cawake_any _).mono ?_
          rintro e w1 ⟨rfl, hb1⟩
          obtain ⟨⟨f0, f1⟩, g0, g1, g2⟩ := kept5 hb1
          have HB1 := Lib.hid hb1
          clear hb1
          go_wp2_with fail
          refine (rfits_par _ _ ps _ _ _ HV.out HM.out.1 (HP.out.next (below_next HB.out HB1.out))).mono ?_
          rintro e w1' ⟨rfl, hb1'⟩
          have HB1' := Lib.hid (below_next HB1.out hb1')
          clear hb1' f0 f1 g0 g1 g2
          obtain ⟨⟨f0, f1⟩, g0, g1, g2⟩ := kept5 HB1'.out
          go_wp2_with fail
          refine (pots_eq _ _ _ _ _ _ _ ps nums _ _ ch _ HL.out.1 HM.out.1 h101' (HP.out.next (below_next HB.out HB1'.out)) (HN.out.next (below_next HB.out HB1'.out))).mono ?_
          rintro e w2 ⟨⟨A2, d2, rfl, hI2⟩, hb2⟩
          have HI2 := Lib.hid hI2
          have HB2 := Lib.hid (below_next HB1'.out hb2)
          clear hb2 f0 f1 g0 g1 g2 hI2 hdec hdec1 hdec2
          obtain ⟨⟨f0, f1⟩, g0, g1, g2⟩ := kept5 HB2.out
          go_wp2_with fail
          refine (Bound_len _ _ _ _ ps l _ _ _ rfl HX.out.1 HM.out.1 HLM.out (HP.out.next (below_next HB.out HB2.out)) HI2.out HL.out.2.1).mono ?_
          rintro e w3 ⟨rfl, hb3⟩
          have HI3 := Lib.hid (HI2.out.next hb3)
          have HB3 := Lib.hid (below_next HB2.out hb3)
          clear hb3 f0 f1 g0 g1 g2
          obtain ⟨⟨f0, f1⟩, g0, g1, g2⟩ := kept5 HB3.out
          obtain ⟨y, hy⟩ : ∃ y, (bif r then x else 0) = y := ⟨_, rfl⟩
          rw [hy]
          have HY := Lib.hid hy
          clear hy
          go_wp2_with fail
          refine (Total_eq _ _ _ _ ps st _ _ _ HX.out.2.1 HX.out.2.2 rfl HM.out.1 HM.out.2.1 (HP.out.next (below_next HB.out HB3.out)) (HS.out.next (below_next HB.out HB3.out))).mono ?_
          rintro e w4 ⟨rfl, hb4⟩
          have HI4 := Lib.hid (HI3.out.next hb4)
          have HB4 := Lib.hid (below_next HB3.out hb4)
          clear hb4 f0 f1 g0 g1 g2
          obtain ⟨⟨f0, f1⟩, g0, g1, g2⟩ := kept5 HB4.out
          go_wp2_with fail
          refine (Check_any (r := rc) _ _ _ _ _ _ ps st l _ _ _ HM.out.1 HM.out.2.1 HLM.out (HP.out.next (below_next HB.out HB4.out)) (HS.out.next (below_next HB.out HB4.out)) HI4.out HL.out.2.2).mono ?_
          rintro e w5 ⟨rfl, hb5⟩
          have HB5 := Lib.hid (below_next HB4.out hb5)
          clear hb5 f0 f1 g0 g1 g2
          rcases HCASE.out with ⟨h1, h2⟩ | ⟨h1, h2, h3, h4⟩
          · subst h1
            by_cases hE0 : E = 0
            · have h3 : r = false := by rcases h2 with h | h; exact h; exact absurd hE0 h
              subst hE0
              subst h3
              clear h2
              go_wp2
              go_ret
              exact ⟨rfl, below_next HB.out HB5.out⟩
            · have b1 : (E == 0) = false := beq_eq_false_iff_ne.2 hE0
              have b2 : (E != 0) = true := by rw [bne_iff_ne]; exact hE0
              clear h2
              go_wp2
              go_ret
              exact ⟨rfl, below_next HB.out HB5.out⟩
          · subst h1
            subst h2
            have hxy : y = x := HY.out.symm
            subst hxy
            rcases h4 with h4 | ⟨h4, h5⟩
            · subst h4
              have b1 : decide (y ≤ t) = true := decide_eq_true h3
              go_wp2
              go_ret
              exact ⟨rfl, below_next HB.out HB5.out⟩
            · subst h4
              subst h5
              go_wp2
              go_ret
              exact ⟨by simp, below_next HB.out HB5.out⟩
      · have hdec : decide ((70 : Int) < (ps.length : Int)) = false := decide_eq_false (by omega)
        have hdec1 : decide ((100 : Int) < (st.length : Int)) = false := decide_eq_false (by omega)
        have hdec2 : decide ((100 : Int) < (nums.length : Int)) = true := decide_eq_true (by omega)
        go_enter Try.func6, Try.ntmps6
        go_wp2_with fail
        refine (cawake_any _).mono ?_
        rintro e w1 ⟨rfl, hb1⟩
        obtain ⟨⟨f0, f1⟩, g0, g1, g2⟩ := kept5 hb1
        go_wp2
        go_ret
        exact ⟨rfl, below_next HB.out hb1⟩
    · have hdec : decide ((70 : Int) < (ps.length : Int)) = false := decide_eq_false (by omega)
      have hdec1 : decide ((100 : Int) < (st.length : Int)) = true := decide_eq_true (by omega)
      go_enter Try.func6, Try.ntmps6
      go_wp2_with fail
      refine (cawake_any _).mono ?_
      rintro e w1 ⟨rfl, hb1⟩
      obtain ⟨⟨f0, f1⟩, g0, g1, g2⟩ := kept5 hb1
      go_wp2
      go_ret
      exact ⟨rfl, below_next HB.out hb1⟩
  · have hdec : decide ((70 : Int) < (ps.length : Int)) = true := decide_eq_true (by omega)
    go_enter Try.func6, Try.ntmps6
    go_wp2_with fail
    refine (cawake_any _).mono ?_
    rintro e w1 ⟨rfl, hb1⟩
    go_wp2
    go_ret
    exact ⟨rfl, below_next HB.out hb1⟩
end Go.Proofs.Ytkamffjncndabaa
