/- The reference's Sound. -/
import Derived.Test.YtkamffjncndabaaCertAwake
namespace Go.Proofs.Ytkamffjncndabaa
open Go.RowKit
theorem rsound_early (A A2 : Option Addr) (c c2 : Nat) (ps : List Pc) (l : List Int) (wd ind : Int) (w : World) (hps : ps.length ≤ lenMax) (hm : l.length ≤ lenMax) (hP : Pcs w w.heap.size A ps) (hI : Ints w w.heap.size A2 l) (hbad : parB ps wd ind = false ∨ l.length ≠ ps.length + 1 ∨ lAt l ps.length ≠ 0) :
    Calls Try.prog 15 #[.slice A ps.length c, .int .i64 wd, .int .i64 ind, .slice A2 l.length c2] w fun e w' => e = .returned (.bool false) ∧ Below w.heap.size w w' := by
  have hm' : l.length ≤ 9223372036854775807 := hm
  have HM := Lib.hid hps
  have HP := Lib.hid hP
  have HI := Lib.hid hI
  clear hm hI hP hps
  cases hp : parB ps wd ind
  · have HQ := Lib.hid hp
    clear hp hbad
    go_enter Try.func15, Try.ntmps15
    go_wp2_with fail
    refine (rfits_par _ _ ps _ _ _ HQ.out HM.out HP.out).mono ?_
    rintro e w1 ⟨rfl, hb1⟩
    go_wp2
    go_ret
    exact ⟨rfl, hb1⟩
  · have HQ := Lib.hid hp
    have h64 := (validB_iff.1 (parB_iff.1 hp).1).1.2
    rw [hp] at hbad
    clear hp
    by_cases hl : l.length = ps.length + 1
    · have hz : ¬ lAt l ps.length = 0 := by rcases hbad with h | h | h; cases h; exact absurd hl h; exact h
      obtain ⟨b, off, rfl, hb, hc⟩ := HI.out (by omega)
      have HC := Lib.hid (hc ps.length (by omega))
      obtain ⟨x, hx⟩ : ∃ x, lAt l ps.length = x := ⟨_, rfl⟩
      rw [hx] at HC hz
      rw [hl]
      have b1 : (x == 0) = false := by simpa using hz
      have b2 : (x != 0) = true := by simpa using hz
      clear hbad hc hx hl
      go_enter Try.func15, Try.ntmps15
      go_wp2_with fail
      refine (rfits_par _ _ ps _ _ _ HQ.out HM.out HP.out).mono ?_
      rintro e w1 ⟨rfl, hb1⟩
      have l0 := (hb1.cell (p := ⟨b, off + ps.length, none⟩) hb).trans HC.out
      have HB1 := Lib.hid hb1
      clear hb1
      go_wp2
      go_ret
      exact ⟨rfl, HB1.out⟩
    · have b1 : ((l.length : Int) == (ps.length : Int) + 1) = false := beq_eq_false_iff_ne.2 (by omega)
      have b2 : ((l.length : Int) != (ps.length : Int) + 1) = true := by rw [bne_iff_ne]; omega
      clear hbad hl
      go_enter Try.func15, Try.ntmps15
      go_wp2_with fail
      refine (rfits_par _ _ ps _ _ _ HQ.out HM.out HP.out).mono ?_
      rintro e w1 ⟨rfl, hb1⟩
      go_wp2
      go_ret
      exact ⟨rfl, hb1⟩
set_option maxRecDepth 100000 in
set_option maxHeartbeats 1000000 in
theorem rsound_range (A A2 : Option Addr) (c c2 : Nat) (ps : List Pc) (l : List Int) (wd ind : Int) (w : World) (hp : parB ps wd ind = true) (hl : l.length = ps.length + 1) (hz : lAt l ps.length = 0) (m : Nat) (hm : m < l.length) (hb : ¬ inR l m) (hg : ∀ k, k < m → inR l k) (hP : Pcs w w.heap.size A ps) (hI : Ints w w.heap.size A2 l) :
    Calls Try.prog 15 #[.slice A ps.length c, .int .i64 wd, .int .i64 ind, .slice A2 l.length c2] w fun e w' => e = .returned (.bool false) ∧ Below w.heap.size w w' := by
  obtain ⟨b, off, rfl, hbl, hc⟩ := hI (by omega)
  have h64 := (validB_iff.1 (parB_iff.1 hp).1).1.2
  have HM : Hid (ps.length ≤ lenMax) := by show _ ≤ _; unfold lenMax; omega
  have HP := Lib.hid hP
  have HQ := Lib.hid hp
  have hzz := hc ps.length (by omega)
  rw [hz] at hzz
  have HZ := Lib.hid hzz
  have HC : Hid (∀ k, k < ps.length + 1 → w.cell? ⟨b, off + k, none⟩ = some (.int .i64 (lAt l k))) := fun k hk => hc k (by omega)
  have HG := Lib.hid hg
  have HBD := Lib.hid hb
  rw [hl] at hm ⊢
  clear hc hg hb hI hz hl hP hp hzz
  go_enter Try.func15, Try.ntmps15
  go_wp2_with fail
  refine (rfits_par _ _ ps _ _ _ HQ.out HM.out HP.out).mono ?_
  rintro e w1 ⟨rfl, hb1⟩
  have l0 := (hb1.cell (p := ⟨b, off + ps.length, none⟩) hbl).trans HZ.out
  have HB1 := Lib.hid hb1
  clear hb1
  go_wp2
  go_loopw [9] (fun q wr => ∃ k : Nat, k ≤ m ∧ q = .int .i64 (k : Int) ∧ wr = w1) (fun q _ => m - (intOf q).toNat)
  case atStart => exact ⟨0, Nat.zero_le _, rfl, rfl⟩
  case round =>
    obtain ⟨k, hk, rfl, rfl⟩ := hrel
    have lk := (HB1.out.cell (p := ⟨b, off + k, none⟩) hbl).trans (HC.out k (by omega))
    obtain ⟨x, hx⟩ : ∃ x, lAt l k = x := ⟨_, rfl⟩
    rw [hx] at lk
    have b1 : (k : Int) < (ps.length : Int) + 1 := by omega
    have b2 : k < ps.length + 1 := by omega
    by_cases hkm : k < m
    · have hin : -1099511627776 ≤ x ∧ x ≤ 1099511627776 := by rw [← hx]; exact HG.out k hkm
      have h1 := hin.1
      have h2 := hin.2
      clear hx hin
      go_wp2
      go_roundw
      case rel => exact ⟨k + 1, by omega, by go_num, trivial⟩
      case measure => simp [intOf]; omega
    · obtain rfl : k = m := by omega
      have hout : x < -1099511627776 ∨ (-1099511627776 ≤ x ∧ 1099511627776 < x) := by
        have : ¬ (-1099511627776 ≤ x ∧ x ≤ 1099511627776) := by rw [← hx]; exact HBD.out
        omega
      clear hx
      rcases hout with h1 | ⟨h1, h2⟩
      all_goals
        go_wp2
        go_ret
        exact ⟨rfl, HB1.out⟩
set_option maxRecDepth 100000 in
set_option maxHeartbeats 2000000 in
theorem rsound_pairs {r : Bool} (A A2 : Option Addr) (c c2 : Nat) (ps : List Pc) (l : List Int) (wd ind : Int) (w : World) (hp : parB ps wd ind = true) (hl : l.length = ps.length + 1) (hz : lAt l ps.length = 0) (hg : ∀ k, k < l.length → inR l k) (hP : Pcs w w.heap.size A ps) (hI : Ints w w.heap.size A2 l) (hr : r = true ↔ ∀ i j, i < j → j ≤ ps.length → okPr ps wd ind l (i, j)) :
    Calls Try.prog 15 #[.slice A ps.length c, .int .i64 wd, .int .i64 ind, .slice A2 l.length c2] w fun e w' => e = .returned (.bool r) ∧ Below w.heap.size w w' := by
  obtain ⟨b, off, rfl, hbl, hc⟩ := hI (by omega)
  have h64 := (validB_iff.1 (parB_iff.1 hp).1).1.2
  have HV := Lib.hid (parB_iff.1 hp).1
  have HFF := Lib.hid (parB_iff.1 hp).2
  have HM : Hid (ps.length ≤ lenMax) := by show _ ≤ _; unfold lenMax; omega
  have HP := Lib.hid hP
  have HQ := Lib.hid hp
  have hzz := hc ps.length (by omega)
  rw [hz] at hzz
  have HZ := Lib.hid hzz
  have HC : Hid (∀ k, k < ps.length + 1 → w.cell? ⟨b, off + k, none⟩ = some (.int .i64 (lAt l k))) := fun k hk => hc k (by omega)
  have HG : Hid (∀ k, k < ps.length + 1 → inR l k) := fun k hk => hg k (by omega)
  have HR := Lib.hid hr
  rw [hl]
  clear hc hg hI hz hl hP hp hzz hr
  go_enter Try.func15, Try.ntmps15
  go_wp2_with fail
  refine (rfits_par _ _ ps _ _ _ HQ.out HM.out HP.out).mono ?_
  rintro e w1 ⟨rfl, hb1⟩
  have l0 := (hb1.cell (p := ⟨b, off + ps.length, none⟩) hbl).trans HZ.out
  have HB1 := Lib.hid hb1
  clear hb1
  go_wp2
  clear l0
  go_loopw [9] (fun q wr => ∃ k : Nat, k ≤ ps.length + 1 ∧ q = .int .i64 (k : Int) ∧ wr = w1) (fun q _ => ps.length + 1 - (intOf q).toNat)
  case atStart => exact ⟨0, Nat.zero_le _, rfl, rfl⟩
  case round =>
    obtain ⟨k, hk, rfl, rfl⟩ := hrel
    by_cases hkm : k < ps.length + 1
    · have lk := (HB1.out.cell (p := ⟨b, off + k, none⟩) hbl).trans (HC.out k (by omega))
      obtain ⟨x, hx⟩ : ∃ x, lAt l k = x := ⟨_, rfl⟩
      rw [hx] at lk
      have b1 : (k : Int) < (ps.length : Int) + 1 := by omega
      have hin : -1099511627776 ≤ x ∧ x ≤ 1099511627776 := by rw [← hx]; exact HG.out k hkm
      have h1 := hin.1
      have h2 := hin.2
      clear hx hin
      go_wp2
      go_roundw
      case rel => exact ⟨k + 1, by omega, by go_num, trivial⟩
      case measure => simp [intOf]; omega
    · have e1 : (k : Int) = (ps.length : Int) + 1 := by omega
      rw [e1]
      clear e1 hk hkm
      obtain ⟨wo, rfl⟩ : ∃ wo : World, wo = wr := ⟨_, rfl⟩
      go_wp2
      go_loopw [10] (fun q wr => ∃ i : Nat, i ≤ ps.length ∧ q = .int .i64 (i : Int) ∧ (∀ i' j, i' < i → i' < j → j ≤ ps.length → okPr ps wd ind l (i', j)) ∧ Below wo.heap.size wo wr) (fun q _ => ps.length - (intOf q).toNat)
      case atStart => exact ⟨0, Nat.zero_le _, rfl, fun i' j h => absurd h (Nat.not_lt_zero _), Below.refl _ _⟩
      case round =>
        obtain ⟨i, hi, rfl, hall, hbw⟩ := hrel
        have HALL := Lib.hid hall
        have HBW := Lib.hid hbw
        clear hall hbw
        by_cases hil : i < ps.length
        · obtain ⟨wp, rfl⟩ : ∃ wp : World, wp = wr := ⟨_, rfl⟩
          go_wp2
          go_loopw [11] (fun q wr => ∃ k : Nat, i + k ≤ ps.length ∧ q = .int .i64 ((i : Int) + (k : Int) + 1) ∧ (∀ j, i < j → j ≤ i + k → okPr ps wd ind l (i, j)) ∧ Below wp.heap.size wp wr) (fun q _ => ps.length + 1 - (intOf q).toNat)
          case atStart => exact ⟨0, by omega, by simp, fun j h1 h2 => by omega, Below.refl _ _⟩
          case round =>
            obtain ⟨k, hk, rfl, hall2, hbw2⟩ := hrel
            have HALL2 := Lib.hid hall2
            have HBW2 := Lib.hid hbw2
            have HBR : Hid (Below w.heap.size w wr) := below_next (below_next HB1.out HBW.out) hbw2
            clear hall2 hbw2
            by_cases hkl : i + k < ps.length
            · have hii := HG.out i (by omega)
              have hjj := HG.out (i + k + 1) (by omega)
              have li0 := (HBR.out.cell (p := ⟨b, off + i, none⟩) hbl).trans (HC.out i (by omega))
              have lj0 := (HBR.out.cell (p := ⟨b, off + (i + k + 1), none⟩) hbl).trans (HC.out (i + k + 1) (by omega))
              have hcb := cC_bound HV.out HFF.out (i := i) (j := i + k + 1) (by omega) (by omega)
              have eI : ((i : Int) + (k : Int) + 1).toNat = i + k + 1 := by omega
              obtain ⟨q, hq⟩ : ∃ q, gG ps wd ind i (i + k + 1) = q := ⟨_, rfl⟩
              have hL := fun X hX => rline_any A c ps wd ind (i : Int) ((i : Int) + (k : Int) + 1) X (by omega) (by omega) (by omega) HV.out HFF.out hX (r := q) (by rw [Int.toNat_natCast, eI]; exact hq)
              simp only [Int.toNat_natCast, eI] at hL
              have hok : okPr ps wd ind l (i, i + k + 1) ↔ (q = true → lAt l i ≤ cC ps wd ind i (i + k + 1) + lAt l (i + k + 1)) := by unfold okPr; rw [hq]
              unfold inR at hii hjj
              obtain ⟨x, hx⟩ : ∃ x, lAt l i = x := ⟨_, rfl⟩
              obtain ⟨y, hy⟩ : ∃ y, lAt l (i + k + 1) = y := ⟨_, rfl⟩
              obtain ⟨d, hd⟩ : ∃ d, cC ps wd ind i (i + k + 1) = d := ⟨_, rfl⟩
              rw [hx] at li0 hii hok
              rw [hy] at lj0 hjj hok
              rw [hd] at hcb hL hok
              have HL := Lib.hid hL
              have HOK := Lib.hid hok
              have hi1 := hii.1
              have hi2 := hii.2
              have hj1 := hjj.1
              have hj2 := hjj.2
              have HL0 := Lib.hid (And.intro li0 lj0)
              clear hL hx hy hd hok hq hii hjj eI li0 lj0
              have hP5 : Hid (Pcs wr wr.heap.size A ps) := HP.out.next HBR.out
              have s1 : IntKind.i64.wrap (d + y) = d + y := IntWalk.i64_in _ (by omega)
              have q1 : (i : Int) < (ps.length : Int) + 1 := by omega
              have q2 : (i : Int) + (k : Int) + 1 < (ps.length : Int) + 1 := by omega
              have q3 : (0 : Int) ≤ (i : Int) + (k : Int) + 1 := by omega
              have q4 : ((i : Int) + (k : Int) + 1).toNat = i + k + 1 := by omega
              have hbr : b < wr.heap.size := by have := HBR.out.size; omega
              cases q
              · go_wp2_with fail
                refine (HL.out _ hP5.out).mono ?_
                rintro e w5 ⟨rfl, hb5⟩
                simp only [cond_false]
                have HB5 := Lib.hid hb5
                clear hb5
                go_wp2_with fail
                go_quiet (fail)
                go_wp2
                go_roundw
                case rel =>
                  refine ⟨k + 1, by omega, by go_num, fun j h1 h2 => ?_, below_drewN (below_next HBW2.out HB5.out) _⟩
                  by_cases e : j = i + k + 1
                  · subst e; exact HOK.out.2 (fun h => by cases h)
                  · exact HALL2.out j h1 (by omega)
                case measure => simp [intOf]; omega
              · by_cases hlt : d + y < x
                · have hrf : r = false := by
                    cases r with
                    | false => rfl
                    | true =>
                      have := HOK.out.1 (HR.out.1 rfl i (i + k + 1) (by omega) (by omega)) rfl
                      omega
                  subst hrf
                  go_wp2_with fail
                  refine (HL.out _ hP5.out).mono ?_
                  rintro e w5 ⟨rfl, hb5⟩
                  simp only [cond_true]
                  have li := (hb5.cell (p := ⟨b, off + i, none⟩) hbr).trans HL0.out.1
                  have lj := (hb5.cell (p := ⟨b, off + (i + k + 1), none⟩) hbr).trans HL0.out.2
                  have lj' := lj
                  rw [← Nat.add_assoc, ← Nat.add_assoc] at lj'
                  have HB5 := Lib.hid hb5
                  clear hb5
                  go_wp2_with fail
                  go_quiet (fail)
                  go_wp2
                  go_ret
                  exact ⟨rfl, below_drewN (below_next HBR.out HB5.out) _⟩
                · have HLT := Lib.hid hlt
                  have d3 : decide (d + y < x) = false := decide_eq_false hlt
                  go_wp2_with fail
                  refine (HL.out _ hP5.out).mono ?_
                  rintro e w5 ⟨rfl, hb5⟩
                  simp only [cond_true]
                  have li := (hb5.cell (p := ⟨b, off + i, none⟩) hbr).trans HL0.out.1
                  have lj := (hb5.cell (p := ⟨b, off + (i + k + 1), none⟩) hbr).trans HL0.out.2
                  have lj' := lj
                  rw [← Nat.add_assoc, ← Nat.add_assoc] at lj'
                  have HB5 := Lib.hid hb5
                  clear hb5
                  go_wp2_with fail
                  go_quiet (fail)
                  go_wp2
                  go_roundw
                  case rel =>
                    refine ⟨k + 1, by omega, by go_num, fun j h1 h2 => ?_, below_drewN (below_next HBW2.out HB5.out) _⟩
                    by_cases e : j = i + k + 1
                    · subst e
                      refine HOK.out.2 (fun _ => ?_)
                      have := HLT.out
                      omega
                    · exact HALL2.out j h1 (by omega)
                  case measure => simp [intOf]; omega
            · have hke : i + k = ps.length := by omega
              have HFI : Hid (∀ i' j, i' < i + 1 → i' < j → j ≤ ps.length → okPr ps wd ind l (i', j)) := fun i' j h1 h2 h3 => by
                by_cases e : i' = i
                · subst e; exact HALL2.out j h2 (by omega)
                · exact HALL.out i' j (by omega) h2 h3
              have hcc : ¬ ((i : Int) + (k : Int) + 1 ≤ (ps.length : Int)) := by omega
              clear hke
              go_wp2
              go_roundw
              case rel => exact ⟨i + 1, by omega, by go_num, HFI.out, below_next HBW.out HBW2.out⟩
              case measure => simp [intOf]; omega
        · obtain rfl : i = ps.length := by omega
          have hrt : r = true := HR.out.2 (fun i' j h1 h2 => HALL.out i' j (by omega) h1 h2)
          subst hrt
          go_wp2
          go_ret
          exact ⟨rfl, below_next HB1.out HBW.out⟩
theorem rSound_any {r : Bool} (A A2 : Option Addr) (c c2 : Nat) (ps : List Pc) (l : List Int) (wd ind : Int) (w : World) (hps : ps.length ≤ lenMax) (hm : l.length ≤ lenMax) (hP : Pcs w w.heap.size A ps) (hI : Ints w w.heap.size A2 l) (hr : r = true ↔ parB ps wd ind = true ∧ SoundP ps wd ind l) :
    Calls Try.prog 15 #[.slice A ps.length c, .int .i64 wd, .int .i64 ind, .slice A2 l.length c2] w fun e w' => e = .returned (.bool r) ∧ Below w.heap.size w w' := by
  by_cases h0 : parB ps wd ind = true ∧ l.length = ps.length + 1 ∧ lAt l ps.length = 0
  · obtain ⟨hp, h1, h2⟩ := h0
    rcases first_bad (inR_dec l) l.length with h3 | ⟨m, hm1, hm2, hm3⟩
    · exact rsound_pairs A A2 c c2 ps l wd ind w hp h1 h2 h3 hP hI (hr.trans ⟨fun h => (soundP_iff.1 h.2).2.2.2, fun h => ⟨hp, soundP_iff.2 ⟨h1, h2, h3, h⟩⟩⟩)
    · have : r = false := by
        cases r with
        | false => rfl
        | true => exact absurd ((soundP_iff.1 (hr.1 rfl).2).2.2.1 m hm1) hm2
      subst this
      exact rsound_range A A2 c c2 ps l wd ind w hp h1 h2 m hm1 hm2 hm3 hP hI
  · have : r = false := by
      cases r with
      | false => rfl
      | true => exact absurd ⟨(hr.1 rfl).1, (hr.1 rfl).2.1, (hr.1 rfl).2.2.1⟩ h0
    subst this
    refine rsound_early A A2 c c2 ps l wd ind w hps hm hP hI ?_
    cases hp : parB ps wd ind with
    | false => exact .inl rfl
    | true =>
      right
      by_cases h1 : l.length = ps.length + 1
      · right
        intro h2
        exact h0 ⟨hp, h1, h2⟩
      · exact .inl h1
end Go.Proofs.Ytkamffjncndabaa
