/- certificate's paragraph.tight, Check and Bound. -/
import Derived.Test.YtkamffjncndabaaCertSound
namespace Go.Proofs.Ytkamffjncndabaa
open Go.RowKit
/-- Line k of some starts is as it has to be. -/
def goodK (ps : List Pc) (wd ind : Int) (st l : List Int) (k : Nat) : Prop :=
  0 ≤ lAt st k ∧ lAt st k < ps.length ∧ lAt st k < endAt ps.length st k ∧ endAt ps.length st k ≤ ps.length ∧ gG ps wd ind (lAt st k).toNat (endAt ps.length st k).toNat = true ∧ lAt l (lAt st k).toNat = cC ps wd ind (lAt st k).toNat (endAt ps.length st k).toNat + lAt l (endAt ps.length st k).toNat
theorem okSts_all {n : Nat} {l : List Int} : ∀ m, (∀ k, k < m → okSt n l k = true) → okSts n l m = true
  | 0, _ => rfl
  | m + 1, h => by
    unfold okSts
    rw [okSts_all m (fun k hk => h k (by omega)), h m (by omega)]
    rfl
theorem good_iff {ps : List Pc} {wd ind : Int} {st l : List Int} : (startsB ps.length st = true ∧ TightP ps wd ind st l) ↔ (0 < st.length ∧ lAt st 0 = 0 ∧ ∀ k, k < st.length → goodK ps wd ind st l k) := by
  constructor
  · rintro ⟨hs, ht⟩
    refine ⟨(startsB_iff.1 hs).1, (startsB_iff.1 hs).2.1, fun k hk => ?_⟩
    have h1 := st_ge hs hk
    have h2 := st_lt hs hk
    have h3 := st_end hs hk
    exact ⟨by omega, h2, h3.1, h3.2, ht k hk⟩
  · rintro ⟨h0, h1, hg⟩
    refine ⟨startsB_iff.2 ⟨h0, h1, okSts_all _ (fun k hk => okSt_iff.2 ⟨(hg k hk).2.1, ?_⟩)⟩, fun k hk => (hg k hk).2.2.2.2⟩
    by_cases e : k = 0
    · exact .inl e
    · right
      have := (hg (k - 1) (by omega)).2.2.1
      rw [end_more (by omega), show k - 1 + 1 = k by omega] at this
      exact this
theorem ctight_early (A A2 A3 : Option Addr) (c c2 c3 : Nat) (ps : List Pc) (st l : List Int) (wd ind : Int) (w : World) (hm : st.length ≤ lenMax) (h64 : ps.length ≤ 64) (hI : Ints w w.heap.size A3 st) (hbad : st.length = 0 ∨ lAt st 0 ≠ 0) :
    Calls Try.prog 29 #[.agg #[.slice A ps.length c, .int .i64 wd, .int .i64 ind], .slice A3 st.length c3, .slice A2 l.length c2] w fun e w' => e = .returned (.bool false) ∧ Below w.heap.size w w' := by
  have hm' : st.length ≤ 9223372036854775807 := hm
  have HI := Lib.hid hI
  clear hm hI
  have HB : Hid (Below w.heap.size w (w.alloc (.cells #[.slice A ps.length c, .int .i64 wd, .int .i64 ind] 54))) := (Below.refl _ _).alloc (Nat.le_refl _) _
  by_cases hl : st.length = 0
  · have b1 : ((st.length : Int) == 0) = true := beq_iff_eq.2 (by omega)
    have b2 : (st.length == 0) = true := beq_iff_eq.2 (by omega)
    clear hbad hl
    go_enter Try.func29, Try.ntmps29
    go_wp2
    go_ret
    exact ⟨rfl, HB.out⟩
  · have hz : ¬ lAt st 0 = 0 := by rcases hbad with h | h; exact absurd h hl; exact h
    obtain ⟨b, off, rfl, hb, hc⟩ := HI.out (by omega)
    have l0 := (HB.out.cell (p := ⟨b, off + 0, none⟩) hb).trans (hc 0 (by omega))
    rw [Nat.add_zero] at l0
    obtain ⟨x, hx⟩ : ∃ x, lAt st 0 = x := ⟨_, rfl⟩
    rw [hx] at l0 hz
    have b1 : (x == 0) = false := by simpa using hz
    have b2 : (x != 0) = true := by simpa using hz
    have b3 : ((st.length : Int) == 0) = false := beq_eq_false_iff_ne.2 (by omega)
    have b4 : (st.length == 0) = false := beq_eq_false_iff_ne.2 (by omega)
    have b5 : 0 < st.length := by omega
    have b6 : ¬ st = [] := fun e => hl (by rw [e]; rfl)
    clear hbad hc hx hl
    go_enter Try.func29, Try.ntmps29
    go_wp2
    go_ret
    exact ⟨rfl, HB.out⟩
set_option maxRecDepth 100000 in
set_option maxHeartbeats 2000000 in
theorem ctight_loop {r : Bool} (A A2 A3 : Option Addr) (c c2 c3 : Nat) (ps : List Pc) (st l : List Int) (wd ind : Int) (w : World) (hm : st.length ≤ lenMax) (hp : parB ps wd ind = true) (hP : Pcs w w.heap.size A ps) (hI : Ints w w.heap.size A3 st) (hL : Ints w w.heap.size A2 l) (hsl : SoundP ps wd ind l) (h0 : 0 < st.length) (hz : lAt st 0 = 0)
    (hr : r = true ↔ ∀ k, k < st.length → goodK ps wd ind st l k) :
    Calls Try.prog 29 #[.agg #[.slice A ps.length c, .int .i64 wd, .int .i64 ind], .slice A3 st.length c3, .slice A2 l.length c2] w fun e w' => e = .returned (.bool r) ∧ Below w.heap.size w w' := by
  have hm' : st.length ≤ 9223372036854775807 := hm
  have hv := (parB_iff.1 hp).1
  have hf := (parB_iff.1 hp).2
  have h64 := (validB_iff.1 hv).1.2
  have HV := Lib.hid hv
  have HFF := Lib.hid hf
  have HP := Lib.hid hP
  have HR := Lib.hid hr
  have HSL := Lib.hid hsl
  have HBX : Hid (Below w.heap.size w (w.alloc (.cells #[.slice A ps.length c, .int .i64 wd, .int .i64 ind] 54))) := (Below.refl _ _).alloc (Nat.le_refl _) _
  have HNB := Lib.hid (blk_new w (.cells #[.slice A ps.length c, .int .i64 wd, .int .i64 ind] 54))
  obtain ⟨b, off, rfl, hb, hc⟩ := hI h0
  obtain ⟨bl, ol, rfl, hbl, hcl⟩ := hL (by rw [hsl.1]; omega)
  have HC := Lib.hid hc
  have HCL := Lib.hid hcl
  rw [hsl.1]
  have l0 := (HBX.out.cell (p := ⟨b, off + 0, none⟩) hb).trans (hc 0 (by omega))
  rw [Nat.add_zero, hz] at l0
  have b3 : ((st.length : Int) == 0) = false := beq_eq_false_iff_ne.2 (by omega)
  have b4 : (st.length == 0) = false := beq_eq_false_iff_ne.2 (by omega)
  have b6 : ¬ st = [] := fun e => by rw [e] at h0; simp at h0
  have HZ := Lib.hid hz
  clear hm hv hf hP hr hI hL hsl hc hcl hz hp
  go_enter Try.func29, Try.ntmps29
  go_wp2_with fail
  have hs0 : (w.alloc (.cells #[.slice A ps.length c, .int .i64 wd, .int .i64 ind] 54)).heap.size = w.heap.size + 1 := by simp
  generalize (w.alloc (.cells #[.slice A ps.length c, .int .i64 wd, .int .i64 ind] 54)) = W0 at HBX HNB l0 hs0 ⊢
  clear l0 b3 b4 b6
  go_loopw [27] (fun q wr => ∃ k : Nat, k ≤ st.length ∧ q = .int .i64 (k : Int) ∧ ((∀ m, m < k → goodK ps wd ind st l m) ∧ (k < st.length → 0 ≤ lAt st k)) ∧ Below W0.heap.size W0 wr) (fun q _ => st.length - (intOf q).toNat)
  case atStart => exact ⟨0, Nat.zero_le _, rfl, ⟨fun m h => absurd h (Nat.not_lt_zero _), fun _ => by rw [HZ.out]; exact Int.le_refl _⟩, Below.refl _ _⟩
  case round =>
    obtain ⟨k, hk, rfl, ⟨hall, hnn⟩, hbw⟩ := hrel
    have HALL := Lib.hid hall
    have HBW := Lib.hid hbw
    have hsz := hbw.size
    rw [hs0] at hsz
    have HBR : Hid (Below w.heap.size w wr) := by
      show Below _ _ _
      exact HBX.out.trans (hbw.mono (by omega))
    clear hall hbw
    by_cases hlt : k < st.length
    · have hi0 := hnn hlt
      clear hnn
      have m := (HBW.out.block w.heap.size (by omega)).trans HNB.out
      have p0 := blk_cell m 0 _ rfl
      have p1 := blk_cell m 1 _ rfl
      have p2 := blk_cell m 2 _ rfl
      have HMB := Lib.hid m
      clear m
      have lk := (HBR.out.cell (p := ⟨b, off + k, none⟩) hb).trans (HC.out k hlt)
      have HGK : Hid (∀ G : Prop, (goodK ps wd ind st l k → G) → (¬ goodK ps wd ind st l k → G) → G) := fun G h1 h2 => by
        by_cases h : goodK ps wd ind st l k
        · exact h1 h
        · exact h2 h
      have HBAD : Hid (¬ goodK ps wd ind st l k → r = false) := fun h => by
        cases r with
        | false => rfl
        | true => exact absurd (HR.out.1 rfl k hlt) h
      obtain ⟨i, hi⟩ : ∃ i, lAt st k = i := ⟨_, rfl⟩
      obtain ⟨e, he⟩ : ∃ e, endAt ps.length st k = e := ⟨_, rfl⟩
      have hgk : goodK ps wd ind st l k ↔ (0 ≤ i ∧ i < ps.length ∧ i < e ∧ e ≤ ps.length ∧ gG ps wd ind i.toNat e.toNat = true ∧ lAt l i.toNat = cC ps wd ind i.toNat e.toNat + lAt l e.toNat) := by
        unfold goodK
        rw [hi, he]
      have HGK2 := Lib.hid hgk
      rw [hi] at lk hi0
      have HI := Lib.hid hi
      have HE := Lib.hid he
      have hP5 : Hid (Pcs wr wr.heap.size A ps) := by
        show Pcs _ _ _ _
        exact HP.out.next HBR.out
      clear hgk hi he
      by_cases hk1 : k + 1 < st.length
      · have le0 := (HBR.out.cell (p := ⟨b, off + (k + 1), none⟩) hb).trans (HC.out (k + 1) hk1)
        have hee : lAt st (k + 1) = e := by rw [← HE.out, end_more hk1]
        rw [hee] at le0
        have le1 := le0
        rw [← Nat.add_assoc] at le1
        have d2 : ((k : Int) + 1).toNat = k + 1 := by omega
        have d3 : (0 : Int) ≤ (k : Int) + 1 := by omega
        have HEE := Lib.hid hee
        clear hee
        have d1 : (k : Int) + 1 < (st.length : Int) := by omega
        by_cases g1 : i < (ps.length : Int)
        · by_cases g2 : i < e
          · by_cases g3 : e ≤ (ps.length : Int)
            · obtain ⟨iN, rfl⟩ : ∃ iN : Nat, i = (iN : Int) := ⟨i.toNat, by omega⟩
              obtain ⟨eN, rfl⟩ : ∃ eN : Nat, e = (eN : Int) := ⟨e.toNat, by omega⟩
              have li := (HBR.out.cell (p := ⟨bl, ol + iN, none⟩) hbl).trans (HCL.out iN (by rw [HSL.out.1]; omega))
              have le := (HBR.out.cell (p := ⟨bl, ol + eN, none⟩) hbl).trans (HCL.out eN (by rw [HSL.out.1]; omega))
              have hbi := HSL.out.2.2.1 iN (by rw [HSL.out.1]; omega)
              have hbe := HSL.out.2.2.1 eN (by rw [HSL.out.1]; omega)
              have hcb := cC_bound HV.out HFF.out (i := iN) (j := eN) (by omega) (by omega)
              obtain ⟨q, hq⟩ : ∃ q, gG ps wd ind iN eN = q := ⟨_, rfl⟩
              have hD := fun X hX => dems_any A c ps wd ind (iN : Int) (eN : Int) X (by omega) (by omega) (by omega) HV.out HFF.out hX (r := q) (by rw [Int.toNat_natCast, Int.toNat_natCast]; exact hq)
              have hgk2 := HGK2.out
              simp only [Int.toNat_natCast] at hD hgk2
              obtain ⟨x, hx⟩ : ∃ x, lAt l iN = x := ⟨_, rfl⟩
              obtain ⟨y, hy⟩ : ∃ y, lAt l eN = y := ⟨_, rfl⟩
              obtain ⟨d, hd⟩ : ∃ d, cC ps wd ind iN eN = d := ⟨_, rfl⟩
              rw [hx] at li hbi
              rw [hy] at le hbe
              rw [hd] at hD hcb
              rw [hx, hy, hd, hq] at hgk2
              have HD := Lib.hid hD
              have HGK3 := Lib.hid hgk2
              have hx1 := hbi.1
              have hx2 := hbi.2
              have hy1 := hbe.1
              have hy2 := hbe.2
              clear hq hD hgk2 hx hy hd hbi hbe
              have s1 : IntKind.i64.wrap (d + y) = d + y := IntWalk.i64_in _ (by omega)
              have q1 : (iN : Int) < (ps.length : Int) + 1 := by omega
              have q2 : (eN : Int) < (ps.length : Int) + 1 := by omega
              cases q
              · have hrf : r = false := HBAD.out (fun h => by have h2 := HGK3.out.1 h; exact absurd h2.2.2.2.2.1 (by simp))
                subst hrf
                go_wp2_with fail
                refine (HD.out _ hP5.out).mono ?_
                rintro e5 w5 ⟨rfl, hb5⟩
                simp only [cond_false]
                have HB5 := Lib.hid hb5
                clear hb5
                go_wp2_with fail
                go_quiet (fail)
                go_wp2
                go_ret
                exact ⟨rfl, below_drewN (below_next HBR.out HB5.out) _⟩
              · by_cases hxy : x = d + y
                · have HXY := Lib.hid hxy
                  have c1 : (x == d + y) = true := by simpa using hxy
                  have c2' : (x != d + y) = false := by simpa using hxy
                  clear hxy
                  go_wp2_with fail
                  refine (HD.out _ hP5.out).mono ?_
                  rintro e5 w5 ⟨rfl, hb5⟩
                  simp only [cond_true]
                  have li' := (hb5.cell (p := ⟨bl, ol + iN, none⟩) (by show bl < _; omega)).trans li
                  have le' := (hb5.cell (p := ⟨bl, ol + eN, none⟩) (by show bl < _; omega)).trans le
                  have HB5 := Lib.hid hb5
                  clear hb5 li le
                  go_wp2_with fail
                  go_quiet (fail)
                  go_wp2
                  go_roundw
                  case rel =>
                    refine ⟨k + 1, by omega, by go_num, ⟨fun m hm => ?_, fun hk2 => ?_⟩, below_drewN (HBW.out.trans (HB5.out.mono HBW.out.size)) _⟩
                    · by_cases e : m = k
                      · subst e; exact HGK3.out.2 ⟨by omega, by omega, by omega, by omega, by first | trivial | rfl, HXY.out⟩
                      · exact HALL.out m (by omega)
                    · rw [HEE.out]; omega
                  case measure => simp [intOf]; omega
                · have hrf : r = false := HBAD.out (fun h => by have h2 := HGK3.out.1 h; exact hxy h2.2.2.2.2.2)
                  subst hrf
                  have c1 : (x == d + y) = false := by simpa using hxy
                  have c2' : (x != d + y) = true := by simpa using hxy
                  have c3' : ¬ x = d + y := hxy
                  clear hxy
                  go_wp2_with fail
                  refine (HD.out _ hP5.out).mono ?_
                  rintro e5 w5 ⟨rfl, hb5⟩
                  simp only [cond_true]
                  have li' := (hb5.cell (p := ⟨bl, ol + iN, none⟩) (by show bl < _; omega)).trans li
                  have le' := (hb5.cell (p := ⟨bl, ol + eN, none⟩) (by show bl < _; omega)).trans le
                  have HB5 := Lib.hid hb5
                  clear hb5 li le
                  go_wp2_with fail
                  go_quiet (fail)
                  go_wp2
                  go_ret
                  exact ⟨rfl, below_drewN (below_next HBR.out HB5.out) _⟩
            · have hrf : r = false := HBAD.out (fun h => by have h2 := HGK2.out.1 h; omega)
              subst hrf
              go_wp2
              go_ret
              exact ⟨rfl, HBR.out⟩
          · have hrf : r = false := HBAD.out (fun h => by have h2 := HGK2.out.1 h; omega)
            subst hrf
            go_wp2
            go_ret
            exact ⟨rfl, HBR.out⟩
        · have hrf : r = false := HBAD.out (fun h => by have h2 := HGK2.out.1 h; omega)
          subst hrf
          go_wp2
          go_ret
          exact ⟨rfl, HBR.out⟩
      · have hee : e = (ps.length : Int) := by rw [← HE.out, end_last hk1]
        subst hee
        have d1 : ¬ (k : Int) + 1 < (st.length : Int) := by omega
        by_cases g1 : i < (ps.length : Int)
        · obtain ⟨iN, rfl⟩ : ∃ iN : Nat, i = (iN : Int) := ⟨i.toNat, by omega⟩
          have li := (HBR.out.cell (p := ⟨bl, ol + iN, none⟩) hbl).trans (HCL.out iN (by rw [HSL.out.1]; omega))
          have le := (HBR.out.cell (p := ⟨bl, ol + ps.length, none⟩) hbl).trans (HCL.out ps.length (by rw [HSL.out.1]; omega))
          have hbi := HSL.out.2.2.1 iN (by rw [HSL.out.1]; omega)
          have hbe := HSL.out.2.2.1 ps.length (by rw [HSL.out.1]; omega)
          have hcb := cC_bound HV.out HFF.out (i := iN) (j := ps.length) (by omega) (by omega)
          obtain ⟨q, hq⟩ : ∃ q, gG ps wd ind iN ps.length = q := ⟨_, rfl⟩
          have hD := fun X hX => dems_any A c ps wd ind (iN : Int) (ps.length : Int) X (by omega) (by omega) (by omega) HV.out HFF.out hX (r := q) (by rw [Int.toNat_natCast, Int.toNat_natCast]; exact hq)
          have hgk2 := HGK2.out
          simp only [Int.toNat_natCast] at hD hgk2
          obtain ⟨x, hx⟩ : ∃ x, lAt l iN = x := ⟨_, rfl⟩
          obtain ⟨y, hy⟩ : ∃ y, lAt l ps.length = y := ⟨_, rfl⟩
          obtain ⟨d, hd⟩ : ∃ d, cC ps wd ind iN ps.length = d := ⟨_, rfl⟩
          rw [hx] at li hbi
          rw [hy] at le hbe
          rw [hd] at hD hcb
          rw [hx, hy, hd, hq] at hgk2
          have HD := Lib.hid hD
          have HGK3 := Lib.hid hgk2
          have hx1 := hbi.1
          have hx2 := hbi.2
          have hy1 := hbe.1
          have hy2 := hbe.2
          clear hq hD hgk2 hx hy hd hbi hbe
          have s1 : IntKind.i64.wrap (d + y) = d + y := IntWalk.i64_in _ (by omega)
          have q1 : (iN : Int) < (ps.length : Int) + 1 := by omega
          have q2 : (ps.length : Int) < (ps.length : Int) + 1 := by omega
          cases q
          · have hrf : r = false := HBAD.out (fun h => by have h2 := HGK3.out.1 h; exact absurd h2.2.2.2.2.1 (by simp))
            subst hrf
            go_wp2_with fail
            refine (HD.out _ hP5.out).mono ?_
            rintro e5 w5 ⟨rfl, hb5⟩
            simp only [cond_false]
            have HB5 := Lib.hid hb5
            clear hb5
            go_wp2_with fail
            go_quiet (fail)
            go_wp2
            go_ret
            exact ⟨rfl, below_drewN (below_next HBR.out HB5.out) _⟩
          · by_cases hxy : x = d + y
            · have HXY := Lib.hid hxy
              have c1 : (x == d + y) = true := by simpa using hxy
              have c2' : (x != d + y) = false := by simpa using hxy
              clear hxy
              go_wp2_with fail
              refine (HD.out _ hP5.out).mono ?_
              rintro e5 w5 ⟨rfl, hb5⟩
              simp only [cond_true]
              have li' := (hb5.cell (p := ⟨bl, ol + iN, none⟩) (by show bl < _; omega)).trans li
              have le' := (hb5.cell (p := ⟨bl, ol + ps.length, none⟩) (by show bl < _; omega)).trans le
              have HB5 := Lib.hid hb5
              clear hb5 li le
              go_wp2_with fail
              go_quiet (fail)
              go_wp2
              go_roundw
              case rel =>
                refine ⟨k + 1, by omega, by go_num, ⟨fun m hm => ?_, fun hk2 => ?_⟩, below_drewN (HBW.out.trans (HB5.out.mono HBW.out.size)) _⟩
                · by_cases e : m = k
                  · subst e; exact HGK3.out.2 ⟨by omega, by omega, by omega, by omega, by first | trivial | rfl, HXY.out⟩
                  · exact HALL.out m (by omega)
                · exact absurd hk2 hk1
              case measure => simp [intOf]; omega
            · have hrf : r = false := HBAD.out (fun h => by have h2 := HGK3.out.1 h; exact hxy h2.2.2.2.2.2)
              subst hrf
              have c1 : (x == d + y) = false := by simpa using hxy
              have c2' : (x != d + y) = true := by simpa using hxy
              have c3' : ¬ x = d + y := hxy
              clear hxy
              go_wp2_with fail
              refine (HD.out _ hP5.out).mono ?_
              rintro e5 w5 ⟨rfl, hb5⟩
              simp only [cond_true]
              have li' := (hb5.cell (p := ⟨bl, ol + iN, none⟩) (by show bl < _; omega)).trans li
              have le' := (hb5.cell (p := ⟨bl, ol + ps.length, none⟩) (by show bl < _; omega)).trans le
              have HB5 := Lib.hid hb5
              clear hb5 li le
              go_wp2_with fail
              go_quiet (fail)
              go_wp2
              go_ret
              exact ⟨rfl, below_drewN (below_next HBR.out HB5.out) _⟩
        · have hrf : r = false := HBAD.out (fun h => by have h2 := HGK2.out.1 h; omega)
          subst hrf
          go_wp2
          go_ret
          exact ⟨rfl, HBR.out⟩
    · obtain rfl : k = st.length := by omega
      have hrt : r = true := HR.out.2 HALL.out
      subst hrt
      go_wp2
      go_ret
      exact ⟨rfl, HBR.out⟩
theorem ctight_any {r : Bool} (A A2 A3 : Option Addr) (c c2 c3 : Nat) (ps : List Pc) (st l : List Int) (wd ind : Int) (w : World) (hm : st.length ≤ lenMax) (hp : parB ps wd ind = true) (hP : Pcs w w.heap.size A ps) (hI : Ints w w.heap.size A3 st) (hL : Ints w w.heap.size A2 l) (hsl : SoundP ps wd ind l)
    (hr : r = true ↔ startsB ps.length st = true ∧ TightP ps wd ind st l) :
    Calls Try.prog 29 #[.agg #[.slice A ps.length c, .int .i64 wd, .int .i64 ind], .slice A3 st.length c3, .slice A2 l.length c2] w fun e w' => e = .returned (.bool r) ∧ Below w.heap.size w w' := by
  rw [good_iff] at hr
  by_cases h : 0 < st.length ∧ lAt st 0 = 0
  · exact ctight_loop A A2 A3 c c2 c3 ps st l wd ind w hm hp hP hI hL hsl h.1 h.2 (hr.trans ⟨fun h => h.2.2, fun h' => ⟨h.1, h.2, h'⟩⟩)
  · have : r = false := by
      cases r with
      | false => rfl
      | true => exact absurd ⟨(hr.1 rfl).1, (hr.1 rfl).2.1⟩ h
    subst this
    exact ctight_early A A2 A3 c c2 c3 ps st l wd ind w hm (validB_iff.1 (parB_iff.1 hp).1).1.2 hI (by omega)
end Go.Proofs.Ytkamffjncndabaa
