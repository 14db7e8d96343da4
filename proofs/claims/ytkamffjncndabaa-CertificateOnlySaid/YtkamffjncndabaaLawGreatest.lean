/- The walk of CertificateGreatest. -/
import Derived.Test.YtkamffjncndabaaCertTwo
namespace Go.Proofs.Ytkamffjncndabaa
open Go.RowKit
theorem pots_len {l : List Int} {m : Nat} (A As An : Option Addr) (c n cs cn : Nat) (ps : List Pc) (nums : List Int) (wd ind : Int) (ch : Bool) (w : World) (hl : claimL ps wd ind nums ch = l) (hlm : l.length = m) (hm : ps.length ≤ lenMax) (hn : nums.length ≤ 100) (hP : Pcs w w.heap.size A ps) (hN : Ints w w.heap.size An nums) :
    Calls Try.prog 14 #[.slice A ps.length c, .agg #[.int .i64 wd, .int .i64 ind], .agg #[.slice As n cs, .slice An nums.length cn, .bool ch]] w fun e w' => (∃ A' c', e = .returned (.slice A' m c') ∧ Ints w' w'.heap.size A' l) ∧ Below w.heap.size w w' := by
  subst hlm; exact pots_eq A As An c n cs cn ps nums wd ind ch w hl hm hn hP hN
theorem Bound_len {r : Bool} {m : Nat} {x : Int} (A A2 : Option Addr) (c c2 : Nat) (ps : List Pc) (l : List Int) (wd ind : Int) (w : World) (hlm : l.length = m) (hx : lAt l 0 = x) (hm : ps.length ≤ lenMax) (hm3 : m ≤ lenMax) (hP : Pcs w w.heap.size A ps) (hL : Ints w w.heap.size A2 l) (hr : r = true ↔ parB ps wd ind = true ∧ SoundP ps wd ind l) :
    Calls Try.prog 16 #[.slice A ps.length c, .int .i64 wd, .int .i64 ind, .slice A2 m c2] w fun e w' => e = .returned (.tuple #[.int .i64 (bif r then x else 0), .bool r]) ∧ Below w.heap.size w w' := by
  subst hlm hx; exact Bound_any A A2 c c2 ps l wd ind w hm hm3 hP hL hr
set_option maxRecDepth 100000 in
set_option maxHeartbeats 2000000 in
theorem certGreatest_walk (A : Option Addr) (c : Nat) (ps : List Pc) (wd ind : Int) (D : Option Addr) (c3 : Nat) (nums : List Int) (w : World) (hm : ps.length ≤ lenMax) (hP : Pcs w w.heap.size A ps) (hm2 : nums.length ≤ lenMax) (hN : Ints w w.heap.size D nums) :
    Calls Try.prog 5 #[.slice A ps.length c, .agg #[.int .i64 wd, .int .i64 ind], .slice D nums.length c3] w fun e w' => e = .returned (.bool true) ∧ Below w.heap.size w w' := by
  have hm' : ps.length ≤ 9223372036854775807 := hm
  have hm2' : nums.length ≤ 9223372036854775807 := hm2
  have HM := Lib.hid (And.intro hm hm2)
  have HP := Lib.hid hP
  have HN := Lib.hid hN
  clear hm hP hm2 hN
  have HB : Hid (Below w.heap.size w (w.alloc (.cells #[.int .i64 wd, .int .i64 ind] 24))) := (Below.refl _ _).alloc (Nat.le_refl _) _
  by_cases h70 : ps.length ≤ 70
  · by_cases h101 : nums.length ≤ 100
    · have hdec : decide ((70 : Int) < (ps.length : Int)) = false := decide_eq_false (by omega)
      have hdec2 : decide ((100 : Int) < (nums.length : Int)) = false := decide_eq_false (by omega)
      have h101' : nums.length ≤ 100 := h101
      cases hv : parB ps wd ind
      · have HV := Lib.hid hv
        clear hv
        go_enter Try.func5, Try.ntmps5
        go_wp2_with fail
        refine (cawake_any _).mono ?_
        rintro e w1 ⟨rfl, hb1⟩
        have f0 := kept_box hb1 0 _ rfl
        have f1 := kept_box hb1 1 _ rfl
        go_wp2_with fail
        refine (rfits_par _ _ ps _ _ _ HV.out HM.out.1 (HP.out.next (below_next HB.out hb1))).mono ?_
        rintro e w2 ⟨rfl, hb2⟩
        go_wp2
        go_ret
        exact ⟨rfl, below_next (below_next HB.out hb1) hb2⟩
      · have HV := Lib.hid hv
        obtain ⟨S, hS⟩ : ∃ S, claimL ps wd ind nums true = S := ⟨_, rfl⟩
        obtain ⟨l, hl⟩ : ∃ l, potL ps wd ind = l := ⟨_, rfl⟩
        have hSl : S.length = ps.length + 1 := by rw [← hS]; unfold claimL makeL; rw [if_pos rfl, if_pos hv, chgL_len, potL_len]
        have hll : l.length = ps.length + 1 := by rw [← hl, potL_len]
        obtain ⟨r, hr⟩ := soundpar_dec ps wd ind S
        have hle : r = true → ∀ k, k ≤ ps.length → lAt S k ≤ lAt l k := fun h k hk => by
          rw [← hl, potL_at _ _ _ hk]
          exact sound_le (hr.1 h).2 _ k hk (Nat.le_refl _)
        have HS := Lib.hid (And.intro hS (And.intro hSl hr))
        have HL := Lib.hid (And.intro hl (And.intro hll hle))
        clear hS hl hSl hll hr hle hv
        go_enter Try.func5, Try.ntmps5
        go_wp2_with fail
        refine (cawake_any _).mono ?_
        rintro e w1 ⟨rfl, hb1⟩
        have f0 := kept_box hb1 0 _ rfl
        have f1 := kept_box hb1 1 _ rfl
        have HB1 := Lib.hid hb1
        clear hb1
        go_wp2_with fail
        refine (rfits_par _ _ ps _ _ _ HV.out HM.out.1 (HP.out.next (below_next HB.out HB1.out))).mono ?_
        rintro e w2 ⟨rfl, hb2⟩
        have HB2 := Lib.hid (below_next HB1.out hb2)
        clear hb2 f0 f1
        have f0 := kept_box HB2.out 0 _ rfl
        have f1 := kept_box HB2.out 1 _ rfl
        go_wp2_with fail
        refine (pots_len _ _ _ _ _ _ _ ps nums _ _ true _ HS.out.1 HS.out.2.1 HM.out.1 h101' (HP.out.next (below_next HB.out HB2.out)) (HN.out.next (below_next HB.out HB2.out))).mono ?_
        rintro e w3 ⟨⟨A3, d3, rfl, hI3⟩, hb3⟩
        have HI3 := Lib.hid hI3
        have HB3 := Lib.hid (below_next HB2.out hb3)
        clear hb3 f0 f1 hI3
        have f0 := kept_box HB3.out 0 _ rfl
        have f1 := kept_box HB3.out 1 _ rfl
        go_wp2_with fail
        refine (Make_len _ _ ps _ _ _ HV.out HL.out.1 rfl (HP.out.next (below_next HB.out HB3.out))).mono ?_
        rintro e w4 ⟨⟨A4, d4, rfl, hI4⟩, hb4⟩
        have HI4 := Lib.hid hI4
        have HI34 := Lib.hid (HI3.out.next hb4)
        have HB4 := Lib.hid (below_next HB3.out hb4)
        clear hb4 f0 f1 hI4
        have f0 := kept_box HB4.out 0 _ rfl
        have f1 := kept_box HB4.out 1 _ rfl
        obtain ⟨x, hx⟩ : ∃ x, lAt S 0 = x := ⟨_, rfl⟩
        have hBD : ∀ W, Below w4.heap.size w4 W → Calls Try.prog 16 #[.slice A ps.length c, .int .i64 wd, .int .i64 ind, .slice A3 (ps.length + 1) d3] W fun e w' => e = .returned (.tuple #[.int .i64 (bif r then x else 0), .bool r]) ∧ Below W.heap.size W w' := fun W h =>
          Bound_len A A3 c d3 ps S wd ind W HS.out.2.1 hx HM.out.1 (by unfold lenMax; omega) (HP.out.next (below_next (below_next HB.out HB4.out) h)) (HI34.out.next h) HS.out.2.2
        have HBD := Lib.hid hBD
        clear hBD hx
        cases r
        · go_wp2_with fail
          refine (HBD.out _ (Below.refl _ _)).mono ?_
          rintro e w5 ⟨rfl, hb5⟩
          simp only [cond_false]
          go_wp2
          go_ret
          exact ⟨rfl, below_next (below_next HB.out HB4.out) hb5⟩
        · obtain ⟨b3, o3, rfl, hb3, hc3⟩ := HI34.out (by have := HS.out.2.1; omega)
          obtain ⟨b4, o4, rfl, hb4, hc4⟩ := HI4.out (by have := HL.out.2.1; omega)
          have HC := Lib.hid (And.intro hc3 hc4)
          clear hc3 hc4
          go_wp2_with fail
          refine (HBD.out _ (Below.refl _ _)).mono ?_
          rintro e w5 ⟨rfl, hb5⟩
          simp only [cond_true]
          have HB5 := Lib.hid hb5
          clear hb5 f0 f1
          go_wp2
          go_loopw [12] (fun q wr => ∃ k : Nat, k ≤ ps.length + 1 ∧ q = .int .i64 (k : Int) ∧ Below w5.heap.size w5 wr) (fun q _ => ps.length + 1 - (intOf q).toNat)
          case atStart => exact ⟨0, Nat.zero_le _, rfl, Below.refl _ _⟩
          case round =>
            obtain ⟨k, hk, rfl, hbw⟩ := hrel
            have HBW := Lib.hid (below_next HB5.out hbw)
            have HBW5 := Lib.hid hbw
            clear hbw
            by_cases hkl : k < ps.length + 1
            · have s0 := (HBW.out.cell (p := ⟨b3, o3 + k, none⟩) hb3).trans (HC.out.1 k (by have := HS.out.2.1; omega))
              have s1 := (HBW.out.cell (p := ⟨b4, o4 + k, none⟩) hb4).trans (HC.out.2 k (by have := HL.out.2.1; omega))
              have hle := HL.out.2.2 (by first | trivial | rfl) k (by omega)
              obtain ⟨x, hx⟩ : ∃ x, lAt S k = x := ⟨_, rfl⟩
              obtain ⟨y, hy⟩ : ∃ y, lAt l k = y := ⟨_, rfl⟩
              rw [hx] at s0 hle
              rw [hy] at s1 hle
              have d1 : decide (y < x) = false := decide_eq_false (by omega)
              have d2 : (k : Int) < (ps.length : Int) + 1 := by omega
              clear hx hy hle
              go_wp2_with fail
              go_quiet (fail)
              go_wp2
              go_roundw
              case rel => exact ⟨k + 1, by omega, by go_num, below_drewN HBW5.out _⟩
              case measure => simp [intOf]; omega
            · obtain rfl : k = ps.length + 1 := by omega
              go_wp2
              go_ret
              exact ⟨rfl, below_next (below_next HB.out HB4.out) HBW.out⟩
    · have hdec : decide ((70 : Int) < (ps.length : Int)) = false := decide_eq_false (by omega)
      have hdec2 : decide ((100 : Int) < (nums.length : Int)) = true := decide_eq_true (by omega)
      go_enter Try.func5, Try.ntmps5
      go_wp2_with fail
      refine (cawake_any _).mono ?_
      rintro e w1 ⟨rfl, hb1⟩
      go_wp2
      go_ret
      exact ⟨rfl, below_next HB.out hb1⟩
  · have hdec : decide ((70 : Int) < (ps.length : Int)) = true := decide_eq_true (by omega)
    go_enter Try.func5, Try.ntmps5
    go_wp2_with fail
    refine (cawake_any _).mono ?_
    rintro e w1 ⟨rfl, hb1⟩
    go_wp2
    go_ret
    exact ⟨rfl, below_next HB.out hb1⟩
end Go.Proofs.Ytkamffjncndabaa
