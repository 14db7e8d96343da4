/- The reference's Check. -/
import Derived.Test.YtkamffjncndabaaCertRSound
namespace Go.Proofs.Ytkamffjncndabaa
open Go.RowKit
set_option maxHeartbeats 1000000 in
theorem rcheck_early (A A2 A3 : Option Addr) (c c2 c3 : Nat) (ps : List Pc) (st l : List Int) (wd ind : Int) (w : World) (hm : ps.length ≤ lenMax) (hm2 : st.length ≤ lenMax) (hm3 : l.length ≤ lenMax) (hP : Pcs w w.heap.size A ps) (hI : Ints w w.heap.size A3 st) (hL : Ints w w.heap.size A2 l) (hbad : ¬ (parB ps wd ind = true ∧ SoundP ps wd ind l) ∨ startsB ps.length st = false) :
    Calls Try.prog 18 #[.slice A ps.length c, .int .i64 wd, .int .i64 ind, .slice A3 st.length c3, .slice A2 l.length c2] w fun e w' => e = .returned (.bool false) ∧ Below w.heap.size w w' := by
  have HM := Lib.hid (And.intro hm (And.intro hm2 hm3))
  have HP := Lib.hid hP
  have HI := Lib.hid hI
  have HL := Lib.hid hL
  clear hm hm2 hm3 hP hI hL
  by_cases hs : parB ps wd ind = true ∧ SoundP ps wd ind l
  · have HS := Lib.hid hs
    have HST := Lib.hid (show startsB ps.length st = false by rcases hbad with h | h; exact absurd hs h; exact h)
    clear hs hbad
    go_enter Try.func18, Try.ntmps18
    go_wp2_with fail
    refine (rSound_any (r := true) _ _ _ _ ps l _ _ _ HM.out.1 HM.out.2.2 HP.out HL.out ⟨fun _ => HS.out, fun _ => rfl⟩).mono ?_
    rintro e w1 ⟨rfl, hb1⟩
    have HB1 := Lib.hid hb1
    clear hb1
    go_wp2_with fail
    refine (rstarts_at _ _ st ps.length _ HST.out HM.out.2.1 (HI.out.next HB1.out)).mono ?_
    rintro e w2 ⟨rfl, hb2⟩
    go_wp2
    go_ret
    exact ⟨rfl, below_next HB1.out hb2⟩
  · have HS := Lib.hid hs
    clear hs hbad
    go_enter Try.func18, Try.ntmps18
    go_wp2_with fail
    refine (rSound_any (r := false) _ _ _ _ ps l _ _ _ HM.out.1 HM.out.2.2 HP.out HL.out ⟨(fun h => by cases h), fun h => absurd h HS.out⟩).mono ?_
    rintro e w1 ⟨rfl, hb1⟩
    go_wp2
    go_ret
    exact ⟨rfl, hb1⟩
set_option maxRecDepth 100000 in
set_option maxHeartbeats 2000000 in
theorem rcheck_loop {r : Bool} (A A2 A3 : Option Addr) (c c2 c3 : Nat) (ps : List Pc) (st l : List Int) (wd ind : Int) (w : World) (hm : st.length ≤ lenMax) (hp : parB ps wd ind = true) (hP : Pcs w w.heap.size A ps) (hI : Ints w w.heap.size A3 st) (hL : Ints w w.heap.size A2 l) (hsl : SoundP ps wd ind l) (hs : startsB ps.length st = true)
    (hr : r = true ↔ TightP ps wd ind st l) :
    Calls Try.prog 18 #[.slice A ps.length c, .int .i64 wd, .int .i64 ind, .slice A3 st.length c3, .slice A2 l.length c2] w fun e w' => e = .returned (.bool r) ∧ Below w.heap.size w w' := by
  have hm' : st.length ≤ 9223372036854775807 := hm
  have hv := (parB_iff.1 hp).1
  have hf := (parB_iff.1 hp).2
  have h64 := (validB_iff.1 hv).1.2
  have HM : Hid (ps.length ≤ lenMax) := by show _ ≤ _; unfold lenMax; omega
  have HM3 : Hid (l.length ≤ lenMax) := by show _ ≤ _; rw [hsl.1]; unfold lenMax; omega
  have HM2 := Lib.hid hm
  have HV := Lib.hid hv
  have HFF := Lib.hid hf
  have HQ := Lib.hid hp
  have HP := Lib.hid hP
  have HR := Lib.hid hr
  have HSL := Lib.hid hsl
  have HS := Lib.hid hs
  have HI0 := Lib.hid hI
  have HL0 := Lib.hid hL
  obtain ⟨b, off, rfl, hb, hc⟩ := hI (startsB_iff.1 hs).1
  obtain ⟨bl, ol, rfl, hbl, hcl⟩ := hL (by rw [hsl.1]; omega)
  have HC := Lib.hid hc
  have HCL := Lib.hid hcl
  clear hm hv hf hP hr hI hL hsl hc hcl hs hp
  go_enter Try.func18, Try.ntmps18
  go_wp2_with fail
  refine (rSound_any (r := true) _ _ _ _ ps l _ _ _ HM.out HM3.out HP.out HL0.out ⟨fun _ => ⟨HQ.out, HSL.out⟩, fun _ => rfl⟩).mono ?_
  rintro e w1 ⟨rfl, hb1⟩
  have HB1 := Lib.hid hb1
  clear hb1
  go_wp2_with fail
  refine (rstarts_at _ _ st ps.length _ HS.out HM2.out (HI0.out.next HB1.out)).mono ?_
  rintro e w2 ⟨rfl, hb2⟩
  have HB2 := Lib.hid (below_next HB1.out hb2)
  clear hb2
  go_wp2
  go_loopw [11] (fun q wr => ∃ k : Nat, k ≤ st.length ∧ q = .int .i64 (k : Int) ∧ (∀ m, m < k → gG ps wd ind (lAt st m).toNat (endAt ps.length st m).toNat = true ∧ lAt l (lAt st m).toNat = cC ps wd ind (lAt st m).toNat (endAt ps.length st m).toNat + lAt l (endAt ps.length st m).toNat) ∧ Below w2.heap.size w2 wr) (fun q _ => st.length - (intOf q).toNat)
  case atStart => exact ⟨0, Nat.zero_le _, rfl, fun m h => absurd h (Nat.not_lt_zero _), Below.refl _ _⟩
  case round =>
    obtain ⟨k, hk, rfl, hall, hbw⟩ := hrel
    have HALL := Lib.hid hall
    have HBW := Lib.hid hbw
    have HBR : Hid (Below w.heap.size w wr) := by
      show Below _ _ _
      exact below_next HB2.out hbw
    clear hall hbw
    by_cases hlt : k < st.length
    · have lk := (HBR.out.cell (p := ⟨b, off + k, none⟩) hb).trans (HC.out k hlt)
      have HBAD : Hid (¬ (gG ps wd ind (lAt st k).toNat (endAt ps.length st k).toNat = true ∧ lAt l (lAt st k).toNat = cC ps wd ind (lAt st k).toNat (endAt ps.length st k).toNat + lAt l (endAt ps.length st k).toNat) → r = false) := fun h => by
        cases r with
        | false => rfl
        | true => exact absurd (HR.out.1 rfl k hlt) h
      have h1 := st_ge HS.out hlt
      have h2 := st_lt HS.out hlt
      have h3 := st_end HS.out hlt
      obtain ⟨iN, hi⟩ : ∃ iN : Nat, lAt st k = (iN : Int) := ⟨(lAt st k).toNat, by omega⟩
      obtain ⟨eN, he⟩ : ∃ eN : Nat, endAt ps.length st k = (eN : Int) := ⟨(endAt ps.length st k).toNat, by omega⟩
      have hall2 : (∀ G : Prop, (gG ps wd ind iN eN = true ∧ lAt l iN = cC ps wd ind iN eN + lAt l eN → G) → (gG ps wd ind (lAt st k).toNat (endAt ps.length st k).toNat = true ∧ lAt l (lAt st k).toNat = cC ps wd ind (lAt st k).toNat (endAt ps.length st k).toNat + lAt l (endAt ps.length st k).toNat → G)) := fun G f => by
        rw [hi, he, Int.toNat_natCast, Int.toNat_natCast]; exact f
      have hbad2 : ¬ (gG ps wd ind iN eN = true ∧ lAt l iN = cC ps wd ind iN eN + lAt l eN) → r = false := fun h => HBAD.out (by rw [hi, he, Int.toNat_natCast, Int.toNat_natCast]; exact h)
      have hgood : (gG ps wd ind iN eN = true ∧ lAt l iN = cC ps wd ind iN eN + lAt l eN) → (gG ps wd ind (lAt st k).toNat (endAt ps.length st k).toNat = true ∧ lAt l (lAt st k).toNat = cC ps wd ind (lAt st k).toNat (endAt ps.length st k).toNat + lAt l (endAt ps.length st k).toNat) := fun h => by
        rw [hi, he, Int.toNat_natCast, Int.toNat_natCast]; exact h
      rw [hi] at lk h1 h2 h3
      rw [he] at h3
      have h3a := h3.1
      have h3b := h3.2
      have HE := Lib.hid he
      have hP5 : Hid (Pcs wr wr.heap.size A ps) := by
        show Pcs _ _ _ _
        exact HP.out.next HBR.out
      have hbr : bl < wr.heap.size := by have := HBR.out.size; omega
      have li := (HBR.out.cell (p := ⟨bl, ol + iN, none⟩) hbl).trans (HCL.out iN (by rw [HSL.out.1]; omega))
      have le := (HBR.out.cell (p := ⟨bl, ol + eN, none⟩) hbl).trans (HCL.out eN (by rw [HSL.out.1]; omega))
      have hbi := HSL.out.2.2.1 iN (by rw [HSL.out.1]; omega)
      have hbe := HSL.out.2.2.1 eN (by rw [HSL.out.1]; omega)
      have hcb := cC_bound HV.out HFF.out (i := iN) (j := eN) (by omega) (by omega)
      obtain ⟨q, hq⟩ : ∃ q, gG ps wd ind iN eN = q := ⟨_, rfl⟩
      have hD := fun X hX => rline_any A c ps wd ind (iN : Int) (eN : Int) X (by omega) (by omega) (by omega) HV.out HFF.out hX (r := q) (by rw [Int.toNat_natCast, Int.toNat_natCast]; exact hq)
      simp only [Int.toNat_natCast] at hD
      obtain ⟨x, hx⟩ : ∃ x, lAt l iN = x := ⟨_, rfl⟩
      obtain ⟨y, hy⟩ : ∃ y, lAt l eN = y := ⟨_, rfl⟩
      obtain ⟨d, hd⟩ : ∃ d, cC ps wd ind iN eN = d := ⟨_, rfl⟩
      rw [hx] at li hbi
      rw [hy] at le hbe
      rw [hd] at hD hcb
      rw [hx, hy, hd, hq] at hbad2 hgood
      have HD := Lib.hid hD
      have HBAD2 := Lib.hid hbad2
      have HGOOD := Lib.hid hgood
      have hx1 := hbi.1
      have hx2 := hbi.2
      have hy1 := hbe.1
      have hy2 := hbe.2
      clear hq hD hbad2 hgood hall2 hx hy hd hbi hbe hi he h3
      have HLI := Lib.hid li
      have HLE := Lib.hid le
      clear li le
      have s1 : IntKind.i64.wrap (d + y) = d + y := IntWalk.i64_in _ (by omega)
      have q1 : (iN : Int) < (l.length : Int) := by rw [HSL.out.1]; omega
      have q2 : (eN : Int) < (l.length : Int) := by rw [HSL.out.1]; omega
      have hbs : b < wr.heap.size := by have := HBR.out.size; omega
      by_cases hk1 : k + 1 < st.length
      · have le0 := (HBR.out.cell (p := ⟨b, off + (k + 1), none⟩) hb).trans (HC.out (k + 1) hk1)
        have hee : lAt st (k + 1) = (eN : Int) := by rw [← HE.out, end_more hk1]
        rw [hee] at le0
        have le1 := le0
        rw [← Nat.add_assoc] at le1
        have d2 : ((k : Int) + 1).toNat = k + 1 := by omega
        have d3 : (0 : Int) ≤ (k : Int) + 1 := by omega
        clear hee
        have d1 : (k : Int) + 1 < (st.length : Int) := by omega
        cases q
        · have hrf : r = false := HBAD2.out (fun h => by cases h.1)
          subst hrf
          go_wp2_with fail
          refine (HD.out _ hP5.out).mono ?_
          rintro e5 w5 ⟨rfl, hb5⟩
          simp only [cond_false]
          have lk' := (hb5.cell (p := ⟨b, off + k, none⟩) (by show b < _; omega)).trans lk
          have HB5 := Lib.hid hb5
          clear hb5
          go_wp2_with fail
          go_quiet (fail)
          go_wp2
          go_ret
          exact ⟨rfl, below_drewN (below_next HBR.out HB5.out) _⟩
        · by_cases hxy : x = d + y
          · have HXY := Lib.hid hxy
            have c1 : (x == d + y) = true := by simpa using hxy
            have c2' : (x != d + y) = false := by simpa using hxy
            clear hxy
            go_wp2_with fail
            refine (HD.out _ hP5.out).mono ?_
            rintro e5 w5 ⟨rfl, hb5⟩
            simp only [cond_true]
            have li' := (hb5.cell (p := ⟨bl, ol + iN, none⟩) hbr).trans HLI.out
            have le' := (hb5.cell (p := ⟨bl, ol + eN, none⟩) hbr).trans HLE.out
            have lk' := (hb5.cell (p := ⟨b, off + k, none⟩) (by show b < _; omega)).trans lk
            have HB5 := Lib.hid hb5
            clear hb5
            go_wp2_with fail
            go_quiet (fail)
            go_wp2
            go_roundw
            case rel =>
              refine ⟨k + 1, by omega, by go_num, fun m hm => ?_, below_drewN (below_next HBW.out HB5.out) _⟩
              by_cases e : m = k
              · subst e; exact HGOOD.out ⟨by first | trivial | rfl, HXY.out⟩
              · exact HALL.out m (by omega)
            case measure => simp [intOf]; omega
          · have hrf : r = false := HBAD2.out (fun h => hxy h.2)
            subst hrf
            have c1 : (x == d + y) = false := by simpa using hxy
            have c2' : (x != d + y) = true := by simpa using hxy
            have c3' : ¬ x = d + y := hxy
            clear hxy
            go_wp2_with fail
            refine (HD.out _ hP5.out).mono ?_
            rintro e5 w5 ⟨rfl, hb5⟩
            simp only [cond_true]
            have li' := (hb5.cell (p := ⟨bl, ol + iN, none⟩) hbr).trans HLI.out
            have le' := (hb5.cell (p := ⟨bl, ol + eN, none⟩) hbr).trans HLE.out
            have lk' := (hb5.cell (p := ⟨b, off + k, none⟩) (by show b < _; omega)).trans lk
            have HB5 := Lib.hid hb5
            clear hb5
            go_wp2_with fail
            go_quiet (fail)
            go_wp2
            go_ret
            exact ⟨rfl, below_drewN (below_next HBR.out HB5.out) _⟩
      · have hee : (eN : Int) = (ps.length : Int) := by rw [← HE.out, end_last hk1]
        obtain rfl : eN = ps.length := by omega
        have d1 : ¬ (k : Int) + 1 < (st.length : Int) := by omega
        clear hee
        cases q
        · have hrf : r = false := HBAD2.out (fun h => by cases h.1)
          subst hrf
          go_wp2_with fail
          refine (HD.out _ hP5.out).mono ?_
          rintro e5 w5 ⟨rfl, hb5⟩
          simp only [cond_false]
          have lk' := (hb5.cell (p := ⟨b, off + k, none⟩) (by show b < _; omega)).trans lk
          have HB5 := Lib.hid hb5
          clear hb5
          go_wp2_with fail
          go_quiet (fail)
          go_wp2
          go_ret
          exact ⟨rfl, below_drewN (below_next HBR.out HB5.out) _⟩
        · by_cases hxy : x = d + y
          · have HXY := Lib.hid hxy
            have c1 : (x == d + y) = true := by simpa using hxy
            have c2' : (x != d + y) = false := by simpa using hxy
            clear hxy
            go_wp2_with fail
            refine (HD.out _ hP5.out).mono ?_
            rintro e5 w5 ⟨rfl, hb5⟩
            simp only [cond_true]
            have li' := (hb5.cell (p := ⟨bl, ol + iN, none⟩) hbr).trans HLI.out
            have le' := (hb5.cell (p := ⟨bl, ol + ps.length, none⟩) hbr).trans HLE.out
            have lk' := (hb5.cell (p := ⟨b, off + k, none⟩) (by show b < _; omega)).trans lk
            have HB5 := Lib.hid hb5
            clear hb5
            go_wp2_with fail
            go_quiet (fail)
            go_wp2
            go_roundw
            case rel =>
              refine ⟨k + 1, by omega, by go_num, fun m hm => ?_, below_drewN (below_next HBW.out HB5.out) _⟩
              by_cases e : m = k
              · subst e; exact HGOOD.out ⟨by first | trivial | rfl, HXY.out⟩
              · exact HALL.out m (by omega)
            case measure => simp [intOf]; omega
          · have hrf : r = false := HBAD2.out (fun h => hxy h.2)
            subst hrf
            have c1 : (x == d + y) = false := by simpa using hxy
            have c2' : (x != d + y) = true := by simpa using hxy
            have c3' : ¬ x = d + y := hxy
            clear hxy
            go_wp2_with fail
            refine (HD.out _ hP5.out).mono ?_
            rintro e5 w5 ⟨rfl, hb5⟩
            simp only [cond_true]
            have li' := (hb5.cell (p := ⟨bl, ol + iN, none⟩) hbr).trans HLI.out
            have le' := (hb5.cell (p := ⟨bl, ol + ps.length, none⟩) hbr).trans HLE.out
            have lk' := (hb5.cell (p := ⟨b, off + k, none⟩) (by show b < _; omega)).trans lk
            have HB5 := Lib.hid hb5
            clear hb5
            go_wp2_with fail
            go_quiet (fail)
            go_wp2
            go_ret
            exact ⟨rfl, below_drewN (below_next HBR.out HB5.out) _⟩
    · obtain rfl : k = st.length := by omega
      have hrt : r = true := HR.out.2 HALL.out
      subst hrt
      go_wp2
      go_ret
      exact ⟨rfl, HBR.out⟩
theorem rCheck_any {r : Bool} (A A2 A3 : Option Addr) (c c2 c3 : Nat) (ps : List Pc) (st l : List Int) (wd ind : Int) (w : World) (hm : ps.length ≤ lenMax) (hm2 : st.length ≤ lenMax) (hm3 : l.length ≤ lenMax) (hP : Pcs w w.heap.size A ps) (hI : Ints w w.heap.size A3 st) (hL : Ints w w.heap.size A2 l) (hr : r = true ↔ CheckP ps wd ind st l) :
    Calls Try.prog 18 #[.slice A ps.length c, .int .i64 wd, .int .i64 ind, .slice A3 st.length c3, .slice A2 l.length c2] w fun e w' => e = .returned (.bool r) ∧ Below w.heap.size w w' := by
  by_cases h : (parB ps wd ind = true ∧ SoundP ps wd ind l) ∧ startsB ps.length st = true
  · exact rcheck_loop A A2 A3 c c2 c3 ps st l wd ind w hm2 h.1.1 hP hI hL h.1.2 h.2 (hr.trans ⟨fun a => a.2.2.2, fun a => ⟨h.1.1, h.1.2, h.2, a⟩⟩)
  · have : r = false := by
      cases r with
      | false => rfl
      | true => exact absurd ⟨⟨(hr.1 rfl).1, (hr.1 rfl).2.1⟩, (hr.1 rfl).2.2.1⟩ h
    subst this
    refine rcheck_early A A2 A3 c c2 c3 ps st l wd ind w hm hm2 hm3 hP hI hL ?_
    by_cases h1 : parB ps wd ind = true ∧ SoundP ps wd ind l
    · right
      cases h2 : startsB ps.length st with
      | false => rfl
      | true => exact absurd ⟨h1, h2⟩ h
    · exact .inl h1
end Go.Proofs.Ytkamffjncndabaa
