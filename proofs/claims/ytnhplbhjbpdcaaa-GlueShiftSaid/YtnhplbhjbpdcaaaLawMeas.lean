/- The walks of GlueMeasures, GlueSet and GlueBadness. -/
import Derived.Test.YtnhplbhjbpdcaaaGluAwake
namespace Go.Proofs.Ytnhplbhjbpdcaaa
open Go.RowKit
theorem VG_some (l : List Gl) : ∃ r : Bool, r = true ↔ VG l := VG_dec l
set_option maxHeartbeats 1000000 in
theorem glueMeasures_walk (A : Option Addr) (c : Nat) (l : List Gl) (o : Int) (w : World) (hm : l.length ≤ lenMax) (hP : Gls w w.heap.size A l) :
    Calls Try.prog 3 #[.slice A l.length c, .int .i64 o] w fun e w' => e = .returned (.bool true) ∧ Below w.heap.size w w' := by
  have HM := Lib.hid hm
  have HP := Lib.hid hP
  clear hm hP
  obtain ⟨r, hr⟩ := VG_some l
  obtain ⟨n, hn⟩ : ∃ n, natZ l = n := ⟨_, rfl⟩
  obtain ⟨s, hs⟩ : ∃ s, strZ l o = s := ⟨_, rfl⟩
  obtain ⟨z, hz⟩ : ∃ z, shrZ l = z := ⟨_, rfl⟩
  have HR := Lib.hid (And.intro hr (And.intro hn (And.intro hs hz)))
  clear hr hn hs hz
  by_cases h3 : 300 < l.length
  · go_enter Try.func3, Try.ntmps3
    go_wp2_with fail
    refine (gawake_any _).mono ?_
    rintro e w1 ⟨rfl, hb1⟩
    go_wp2
    go_ret
    exact ⟨rfl, hb1⟩
  · go_enter Try.func3, Try.ntmps3
    go_wp2_with fail
    refine (gawake_any _).mono ?_
    rintro e w1 ⟨rfl, hb1⟩
    have HB1 := Lib.hid hb1
    clear hb1
    go_wp2_with fail
    refine (gvalid_any (r := r) _ _ l _ HM.out (HP.out.next HB1.out) HR.out.1).mono ?_
    rintro e w2 ⟨rfl, hb2⟩
    have HB2 := Lib.hid (below_next HB1.out hb2)
    clear hb2 HB1
    go_wp2_with fail
    refine (rvalidg_any (r := r) _ _ l _ HM.out (HP.out.next HB2.out) HR.out.1).mono ?_
    rintro e w3 ⟨rfl, hb3⟩
    have HB3 := Lib.hid (below_next HB2.out hb3)
    clear hb3 HB2
    go_wp2_with fail
    refine (gnat_any _ _ l _ HR.out.2.1 HM.out (HP.out.next HB3.out)).mono ?_
    rintro e w4 ⟨rfl, hb4⟩
    have HB4 := Lib.hid (below_next HB3.out hb4)
    clear hb4 HB3
    go_wp2_with fail
    refine (rnat_any _ _ l _ HR.out.2.1 HM.out (HP.out.next HB4.out)).mono ?_
    rintro e w5 ⟨rfl, hb5⟩
    have HB5 := Lib.hid (below_next HB4.out hb5)
    clear hb5 HB4
    go_wp2_with fail
    refine (gstr_any _ _ l _ _ HR.out.2.2.1 HM.out (HP.out.next HB5.out)).mono ?_
    rintro e w6 ⟨rfl, hb6⟩
    have HB6 := Lib.hid (below_next HB5.out hb6)
    clear hb6 HB5
    go_wp2_with fail
    refine (rstr_any _ _ l _ _ HR.out.2.2.1 HM.out (HP.out.next HB6.out)).mono ?_
    rintro e w7 ⟨rfl, hb7⟩
    have HB7 := Lib.hid (below_next HB6.out hb7)
    clear hb7 HB6
    go_wp2_with fail
    refine (gshr_any _ _ l _ HR.out.2.2.2 HM.out (HP.out.next HB7.out)).mono ?_
    rintro e w8 ⟨rfl, hb8⟩
    have HB8 := Lib.hid (below_next HB7.out hb8)
    clear hb8 HB7
    go_wp2_with fail
    refine (rshr_any _ _ l _ HR.out.2.2.2 HM.out (HP.out.next HB8.out)).mono ?_
    rintro e w9 ⟨rfl, hb9⟩
    go_wp2
    go_ret
    exact ⟨rfl, below_next HB8.out hb9⟩
set_option maxHeartbeats 1000000 in
theorem glueSet_walk (A : Option Addr) (c : Nat) (l : List Gl) (wd : Int) (w : World) (hm : l.length ≤ lenMax) (hP : Gls w w.heap.size A l) :
    Calls Try.prog 4 #[.slice A l.length c, .int .i64 wd] w fun e w' => e = .returned (.bool true) ∧ Below w.heap.size w w' := by
  have HM := Lib.hid hm
  have HP := Lib.hid hP
  clear hm hP
  obtain ⟨L, hL⟩ : ∃ L, setL l wd = L := ⟨_, rfl⟩
  obtain ⟨r, hr⟩ : ∃ r, setR l wd = r := ⟨_, rfl⟩
  obtain ⟨x, hx⟩ : ∃ x, errV l wd = x := ⟨_, rfl⟩
  obtain ⟨n, hn⟩ : ∃ n, L.length = n := ⟨_, rfl⟩
  have hnb : l.length ≤ 300 → n ≤ lenMax := fun h => by
    have : setL l wd = [] ∨ (setL l wd).length = l.length := by
      unfold setL
      split
      · exact .inr (mapN_len _ _)
      · exact .inl rfl
    rw [← hn, ← hL]
    unfold lenMax
    rcases this with h2 | h2
    · rw [h2]; simp
    · omega
  have HR := Lib.hid (And.intro hL (And.intro hr (And.intro hx (And.intro hn hnb))))
  clear hL hr hx hn hnb
  by_cases h3 : 300 < l.length
  · go_enter Try.func4, Try.ntmps4
    go_wp2_with fail
    refine (gawake_any _).mono ?_
    rintro e w1 ⟨rfl, hb1⟩
    go_wp2
    go_ret
    exact ⟨rfl, hb1⟩
  · have HN : Hid (n ≤ lenMax) := HR.out.2.2.2.2 (by omega)
    go_enter Try.func4, Try.ntmps4
    go_wp2_with fail
    refine (gawake_any _).mono ?_
    rintro e w1 ⟨rfl, hb1⟩
    have HB1 := Lib.hid hb1
    clear hb1
    go_wp2_with fail
    refine (gset_at _ _ l _ _ HR.out.1 HR.out.2.1 HR.out.2.2.1 HR.out.2.2.2.1 HM.out (HP.out.next HB1.out)).mono ?_
    rintro e w2 ⟨⟨A2, c2, rfl, hI2⟩, hb2⟩
    have HI2 := Lib.hid hI2
    have HB2 := Lib.hid (below_next HB1.out hb2)
    clear hb2 HB1 hI2
    go_wp2_with fail
    refine (rset_at _ _ l _ _ HR.out.1 HR.out.2.1 HR.out.2.2.1 HR.out.2.2.2.1 HM.out (HP.out.next HB2.out)).mono ?_
    rintro e w3 ⟨⟨A3, c3, rfl, hI3⟩, hb3⟩
    have HI3 := Lib.hid hI3
    have HJ2 : Hid (Ints w3 w3.heap.size A2 L) := HI2.out.next hb3
    have HB3 := Lib.hid (below_next HB2.out hb3)
    clear hb3 HB2 hI3
    go_wp2_with fail
    refine (same_len (r := true) _ _ _ _ L L _ HR.out.2.2.2.1 HR.out.2.2.2.1 (decide_eq_true rfl) HN.out HN.out HJ2.out HI3.out).mono ?_
    rintro e w4 ⟨rfl, hb4⟩
    go_wp2
    go_ret
    exact ⟨rfl, below_next HB3.out hb4⟩
set_option maxHeartbeats 1000000 in
theorem glueBadness_walk (A : Option Addr) (c : Nat) (l : List Gl) (wd : Int) (w : World) (hm : l.length ≤ lenMax) (hP : Gls w w.heap.size A l) :
    Calls Try.prog 5 #[.slice A l.length c, .int .i64 wd] w fun e w' => e = .returned (.bool true) ∧ Below w.heap.size w w' := by
  have HM := Lib.hid hm
  have HP := Lib.hid hP
  clear hm hP
  obtain ⟨b, hb⟩ : ∃ b, badV l wd = b := ⟨_, rfl⟩
  obtain ⟨x, hx⟩ : ∃ x, errV l wd = x := ⟨_, rfl⟩
  have HR := Lib.hid (And.intro hb hx)
  clear hb hx
  by_cases h3 : 300 < l.length
  · go_enter Try.func5, Try.ntmps5
    go_wp2_with fail
    refine (gawake_any _).mono ?_
    rintro e w1 ⟨rfl, hb1⟩
    go_wp2
    go_ret
    exact ⟨rfl, hb1⟩
  · go_enter Try.func5, Try.ntmps5
    go_wp2_with fail
    refine (gawake_any _).mono ?_
    rintro e w1 ⟨rfl, hb1⟩
    have HB1 := Lib.hid hb1
    clear hb1
    go_wp2_with fail
    refine (gbad_at _ _ l _ _ HR.out.1 HR.out.2 HM.out (HP.out.next HB1.out)).mono ?_
    rintro e w2 ⟨rfl, hb2⟩
    have HB2 := Lib.hid (below_next HB1.out hb2)
    clear hb2 HB1
    go_wp2_with fail
    refine (rbad_at _ _ l _ _ HR.out.1 HR.out.2 HM.out (HP.out.next HB2.out)).mono ?_
    rintro e w3 ⟨rfl, hb3⟩
    go_wp2
    go_ret
    exact ⟨rfl, below_next HB2.out hb3⟩
end Go.Proofs.Ytnhplbhjbpdcaaa
