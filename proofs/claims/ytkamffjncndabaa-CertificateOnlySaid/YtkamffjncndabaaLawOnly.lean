/- The walk of CertificateOnly. -/
import Derived.Test.YtkamffjncndabaaLawProves
import Derived.Test.YtkamffjncndabaaCertSubset
import Derived.Deep.RegionHeld3
namespace Go.Proofs.Ytkamffjncndabaa
open Go.RowKit
def eS (ps : List Pc) (wd ind : Int) (m : Nat) : Int := totE ps ((subS m (ps.length - 1)).map Int.ofNat) wd ind
def tS (ps : List Pc) (wd ind : Int) (m : Nat) : Int := totN ps ((subS m (ps.length - 1)).map Int.ofNat) wd ind
/-- One of the first m subsets has the number x. -/
def fnd (ps : List Pc) (wd ind x : Int) : Nat → Bool
  | 0 => false
  | m + 1 => fnd ps wd ind x m || (decide (eS ps wd ind m = 0) && decide (tS ps wd ind m = x))
theorem fnd_of {ps : List Pc} {wd ind x : Int} {j : Nat} (he : eS ps wd ind j = 0) (ht : tS ps wd ind j = x) : ∀ m, j < m → fnd ps wd ind x m = true
  | m + 1, h => by
    unfold fnd
    by_cases e : j = m
    · subst e; rw [he, ht]; simp
    · rw [fnd_of he ht m (by omega)]; rfl
theorem pot0 (ps : List Pc) (wd ind : Int) : (bestT ps wd ind).dm = pT ps wd ind 0 := rfl
theorem fnd_all {ps : List Pc} {wd ind : Int} (hp : parB ps wd ind = true) : fnd ps wd ind (pT ps wd ind 0) (2 ^ (ps.length - 1)) = true := by
  have h1 := (validB_iff.1 (parB_iff.1 hp).1).1.1
  obtain ⟨e1, e2⟩ := best_tot hp
  have hw : IsP ps.length (gG ps wd ind) 0 (bestP ps wd ind) := (best_of (n := ps.length) (C := cC ps wd ind) (fun i _ => gG_one ps wd ind i) (i := 0) (Nat.zero_le _)).2.1
  have hw2 := isP_any hw
  rw [show ps.length = ps.length - 1 + 1 by omega] at hw2
  obtain ⟨set, h2, h3⟩ := sub_all _ _ hw2
  refine fnd_of (j := set) ?_ ?_ _ h2
  · unfold eS; rw [← h3]; exact e1
  · unfold tS; rw [← h3, e2]; rfl
theorem least_of {ps : List Pc} {wd ind : Int} {st : List Int} (hp : parB ps wd ind = true) (he : totE ps st wd ind = 0) : pT ps wd ind 0 ≤ totN ps st wd ind := by
  have := (proves_law hp (sound_least (parB_iff.1 hp).1 (parB_iff.1 hp).2) he).1
  rw [potL_at _ _ _ (Nat.zero_le _)] at this
  exact this
theorem only_iff {ps : List Pc} {wd ind : Int} {st : List Int} (hp : parB ps wd ind = true) : CheckP ps wd ind st (potL ps wd ind) ↔ (totE ps st wd ind = 0 ∧ totN ps st wd ind = pT ps wd ind 0) := by
  constructor
  · rintro ⟨_, h1, h2, h3⟩
    have he := tight_legal hp h2 h3
    have := (proves_law hp h1 he).2 h3
    rw [potL_at _ _ _ (Nat.zero_le _)] at this
    exact ⟨he, this.symm⟩
  · rintro ⟨h1, h2⟩
    obtain ⟨h3, h4⟩ := tight_of_least hp h1 h2
    exact ⟨hp, sound_least (parB_iff.1 hp).1 (parB_iff.1 hp).2, h3, h4⟩
set_option maxRecDepth 100000 in
set_option maxHeartbeats 2000000 in
theorem certOnly_walk (A : Option Addr) (c : Nat) (ps : List Pc) (wd ind x : Int) (w : World) (hm : ps.length ≤ lenMax) (hP : Pcs w w.heap.size A ps) (hx0 : 0 ≤ x) (hx1 : x ≤ 18446744073709551615) :
    Calls Try.prog 7 #[.slice A ps.length c, .agg #[.int .i64 wd, .int .i64 ind], .int .u64 x] w fun e w' => e = .returned (.bool true) ∧ Below w.heap.size w w' := by
  have hm' : ps.length ≤ 9223372036854775807 := hm
  have HM := Lib.hid hm
  have HP := Lib.hid hP
  clear hm hP
  have HB : Hid (Below w.heap.size w (w.alloc (.cells #[.int .i64 wd, .int .i64 ind] 24))) := (Below.refl _ _).alloc (Nat.le_refl _) _
  by_cases h8 : ps.length ≤ 8
  · have hdec : decide ((8 : Int) < (ps.length : Int)) = false := decide_eq_false (by omega)
    cases hv : parB ps wd ind
    · have HV := Lib.hid hv
      clear hv
      go_enter Try.func7, Try.ntmps7
      go_wp2_with fail
      refine (cawake_any _).mono ?_
      rintro e w1 ⟨rfl, hb1⟩
      have f0 := kept_box hb1 0 _ rfl
      have f1 := kept_box hb1 1 _ rfl
      go_wp2_with fail
      refine (rfits_par _ _ ps _ _ _ HV.out HM.out (HP.out.next (below_next HB.out hb1))).mono ?_
      rintro e w2 ⟨rfl, hb2⟩
      go_wp2
      go_ret
      exact ⟨rfl, below_next (below_next HB.out hb1) hb2⟩
    · have HV := Lib.hid hv
      have h1 := (validB_iff.1 (parB_iff.1 hv).1).1.1
      obtain ⟨M, rfl⟩ : ∃ M : Nat, x = (M : Int) := ⟨x.toNat, by omega⟩
      obtain ⟨l, hl⟩ : ∃ l, potL ps wd ind = l := ⟨_, rfl⟩
      obtain ⟨p, hp0⟩ : ∃ p, pT ps wd ind 0 = p := ⟨_, rfl⟩
      have hll : l.length = ps.length + 1 := by rw [← hl, potL_len]
      have hl0 : lAt l 0 = p := by rw [← hl, potL_at _ _ _ (Nat.zero_le _), hp0]
      obtain ⟨N, hN⟩ : ∃ N, 2 ^ (ps.length - 1) = N := ⟨_, rfl⟩
      have hpw : N ≤ 128 := by
        rw [← hN]
        exact Nat.pow_le_pow_right (show 0 < 2 by omega) (show ps.length - 1 ≤ 7 by omega)
      have eN : ((ps.length : Int) - 1).toNat = ps.length - 1 := by omega
      have eW : IntKind.u64.wrap ((2 : Int) ^ (ps.length - 1)) = (N : Int) := by
        rw [show ((2 : Int) ^ (ps.length - 1)) = (N : Int) by rw [← hN]; simp]
        exact IntWalk.u64_in _ (by omega)
      have hfN : fnd ps wd ind p N = true := by rw [← hp0, ← hN]; exact fnd_all hv
      have hlst : ∀ m, eS ps wd ind m = 0 → p ≤ tS ps wd ind m := fun m h => by rw [← hp0]; exact least_of hv h
      obtain ⟨st, hst⟩ : ∃ st, (subS M (ps.length - 1)).map Int.ofNat = st := ⟨_, rfl⟩
      have hstl : st.length ≤ 8 := by rw [← hst, List.length_map]; have := (subS_len M (ps.length - 1)).2; omega
      have hsl2 : (subS M (ps.length - 1)).length = st.length := by rw [← hst, List.length_map]
      obtain ⟨E, hE⟩ : ∃ E, totE ps st wd ind = E := ⟨_, rfl⟩
      obtain ⟨t, ht⟩ : ∃ t, totN ps st wd ind = t := ⟨_, rfl⟩
      obtain ⟨rc, hrc⟩ := check_dec ps wd ind st l
      have hro : rc = true ↔ (E = 0 ∧ t = p) := by rw [hrc, ← hl, only_iff hv, hE, ht, hp0]
      have HL := Lib.hid (And.intro hl (And.intro hll hl0))
      have HNN := Lib.hid (And.intro hN (And.intro hfN hlst))
      have HST := Lib.hid (And.intro hst (And.intro hsl2 hstl))
      have HET := Lib.hid (And.intro hE (And.intro ht (And.intro hrc hro)))
      have HSM : Hid (st.length ≤ lenMax) := by show _ ≤ _; unfold lenMax; omega
      clear hv hl hp0 hll hl0 hN hfN hlst hst hsl2 hE ht hrc hro hstl
      go_enter Try.func7, Try.ntmps7
      go_wp2_with fail
      refine (cawake_any _).mono ?_
      rintro e w1 ⟨rfl, hb1⟩
      have f0 := kept_box hb1 0 _ rfl
      have f1 := kept_box hb1 1 _ rfl
      have HB1 := Lib.hid hb1
      clear hb1
      go_wp2_with fail
      refine (rfits_par _ _ ps _ _ _ HV.out HM.out (HP.out.next (below_next HB.out HB1.out))).mono ?_
      rintro e w2 ⟨rfl, hb2⟩
      have HB2 := Lib.hid (below_next HB1.out hb2)
      clear hb2 f0 f1
      have f0 := kept_box HB2.out 0 _ rfl
      have f1 := kept_box HB2.out 1 _ rfl
      go_wp2_with fail
      refine (Make_len _ _ ps _ _ _ HV.out HL.out.1 rfl (HP.out.next (below_next HB.out HB2.out))).mono ?_
      rintro e w3 ⟨⟨A3, d3, rfl, hI3⟩, hb3⟩
      have HI3 := Lib.hid hI3
      have HB3 := Lib.hid (below_next HB2.out hb3)
      have hbox : w.heap.size < w3.heap.size := by have := HB3.out.size; simp at this; omega
      clear hI3 hb3 f0 f1
      have hf0 := kept_box HB3.out 0 _ rfl
      have hf1 := kept_box HB3.out 1 _ rfl
      obtain ⟨b, off, rfl, hb, hc⟩ := HI3.out (by have := HL.out.2.1; omega)
      have hl0 := hc 0 (by have := HL.out.2.1; omega)
      rw [Nat.add_zero, HL.out.2.2] at hl0
      have HC := Lib.hid (And.intro hf0 (And.intro hf1 hl0))
      have HW3 : Hid (Below w.heap.size w w3) := below_next HB.out HB3.out
      have b1 : (0 : Int) < (ps.length : Int) + 1 := by omega
      clear hc hf0 hf1 hl0
      go_wp2
      go_loopw [9, 10] (fun v q wr => ∃ m : Nat, m ≤ N ∧ q = .int .u64 (m : Int) ∧ v = .bool (fnd ps wd ind p m) ∧ Below w3.heap.size w3 wr) (fun _ q _ => N - (intOf q).toNat)
      case atStart => exact ⟨0, Nat.zero_le _, rfl, rfl, Below.refl _ _⟩
      case round =>
        obtain ⟨m, hm, rfl, rfl, hbw⟩ := hrel
        have HBW := Lib.hid hbw
        have hws := hbw.size
        clear hbw
        have f0 := (HBW.out.cell (p := ⟨w.heap.size, 0, none⟩) hbox).trans HC.out.1
        have f1 := (HBW.out.cell (p := ⟨w.heap.size, 1, none⟩) hbox).trans HC.out.2.1
        have HWR : Hid (Below w.heap.size w wr) := below_next HW3.out HBW.out
        have hbr : w.heap.size < wr.heap.size := by omega
        by_cases hlt : m < N
        · have hdec : decide ((m : Int) < (N : Int)) = true := decide_eq_true (by omega)
          have hm64 : m < 18446744073709551616 := by omega
          have hsl := (subS_len m (ps.length - 1)).2
          obtain ⟨e0, he0⟩ : ∃ e0, eS ps wd ind m = e0 := ⟨_, rfl⟩
          obtain ⟨t0, ht0⟩ : ∃ t0, tS ps wd ind m = t0 := ⟨_, rfl⟩
          have hT := fun (A2 : Option Addr) (c2 : Nat) W hP hI => Total_eq (t := t0) (e' := e0) (n := (subS m (ps.length - 1)).length) A A2 c c2 ps ((subS m (ps.length - 1)).map Int.ofNat) wd ind W ht0 he0 (by rw [List.length_map]) HM.out (by unfold lenMax; omega) hP hI
          have hlo := HNN.out.2.2 m
          rw [he0, ht0] at hlo
          have hfs : fnd ps wd ind p (m + 1) = (fnd ps wd ind p m || (decide (e0 = 0) && decide (t0 = p))) := by rw [← he0, ← ht0]; rfl
          have HT := Lib.hid hT
          have HFS := Lib.hid hfs
          have HLO := Lib.hid hlo
          clear hT hfs he0 ht0 hlo
          obtain ⟨fd, hfd⟩ : ∃ fd, fnd ps wd ind p m = fd := ⟨_, rfl⟩
          rw [hfd] at HFS ⊢
          clear hfd
          go_wp2_with fail
          go_region_held3 (fun W => W.cell? ⟨w.heap.size, 0, none⟩ = some (.int .i64 wd) ∧ W.cell? ⟨w.heap.size, 1, none⟩ = some (.int .i64 ind)) (go_keep)
            (first
              | (go_at_call 21; refine (Subset_any ps.length m _ h1 (by omega) hm64).mono ?_; rintro e w5 ⟨⟨A5, c5, rfl, hI5⟩, hb5⟩
                 have hb5' : Below wr.heap.size wr w5 := (Below.refl _ wr).drew.trans hb5
                 have f0' := (hb5'.cell (p := ⟨w.heap.size, 0, none⟩) hbr).trans f0
                 have f1' := (hb5'.cell (p := ⟨w.heap.size, 1, none⟩) hbr).trans f1)
              | (go_at_call 20; refine (HT.out A5 c5 _ (HP.out.next (below_next HWR.out hb5')) hI5).mono ?_; rintro e w6 ⟨rfl, hb6⟩
                 have hb6' : Below wr.heap.size wr w6 := below_next hb5' hb6
                 have f0'' := (hb6'.cell (p := ⟨w.heap.size, 0, none⟩) hbr).trans f0
                 have f1'' := (hb6'.cell (p := ⟨w.heap.size, 1, none⟩) hbr).trans f1))
          have l0 := ((below_next HBW.out hb6').cell (p := ⟨b, off, none⟩) hb).trans HC.out.2.2
          have HB6 := Lib.hid (below_next HBW.out hb6')
          clear hb5 hb5' hb6 hb6' f0 f1 f0' f1' f0'' f1'' hI5
          by_cases hE0 : e0 = 0
          · have hlo := HLO.out hE0
            subst hE0
            by_cases htp : t0 = p
            · have HF2 : Hid (fnd ps wd ind p (m + 1) = true) := by
                show _ = _
                rw [HFS.out, decide_eq_true htp]; simp
              subst htp
              cases fd
              all_goals
                go_wp2
                go_roundw
                case rel => exact ⟨m + 1, by omega, by go_num, by rw [HF2.out], HB6.out⟩
                case measure => simp [intOf]; omega
            · have HF2 : Hid (fnd ps wd ind p (m + 1) = fd) := by
                show _ = _
                rw [HFS.out, decide_eq_false htp]; simp
              have d1 : decide (t0 < p) = false := decide_eq_false (by omega)
              have d2 : (t0 == p) = false := beq_eq_false_iff_ne.2 htp
              cases fd
              all_goals
                go_wp2
                go_roundw
                case rel => exact ⟨m + 1, by omega, by go_num, by rw [HF2.out], HB6.out⟩
                case measure => simp [intOf]; omega
          · have HF2 : Hid (fnd ps wd ind p (m + 1) = fd) := by
              show _ = _
              rw [HFS.out, decide_eq_false hE0]; simp
            have d2 : (e0 == 0) = false := beq_eq_false_iff_ne.2 hE0
            cases fd
            all_goals
              go_wp2
              go_roundw
              case rel => exact ⟨m + 1, by omega, by go_num, by rw [HF2.out], HB6.out⟩
              case measure => simp [intOf]; omega
        · obtain rfl : m = N := by omega
          rw [HNN.out.2.1]
          have hS := fun W => Subset_any ps.length M W h1 (by omega) (by omega)
          rw [HST.out.2.1, HST.out.1] at hS
          have HS := Lib.hid hS
          clear hS
          go_wp2_with fail
          refine (HS.out _).mono ?_
          rintro e w4 ⟨⟨A4, d4, rfl, hI4⟩, hb4⟩
          have HI4 := Lib.hid hI4
          have HB4 := Lib.hid (below_next HBW.out hb4)
          clear hb4 hI4 f0 f1
          have f0 := (HB4.out.cell (p := ⟨w.heap.size, 0, none⟩) hbox).trans HC.out.1
          have f1 := (HB4.out.cell (p := ⟨w.heap.size, 1, none⟩) hbox).trans HC.out.2.1
          go_wp2_with fail
          refine (Total_eq _ _ _ _ ps st _ _ _ HET.out.2.1 HET.out.1 rfl HM.out HSM.out (HP.out.next (below_next HW3.out HB4.out)) HI4.out).mono ?_
          rintro e w5 ⟨rfl, hb5⟩
          have HI5 := Lib.hid (HI4.out.next hb5)
          have HB5 := Lib.hid (below_next HB4.out hb5)
          clear hb5 f0 f1
          have f0 := (HB5.out.cell (p := ⟨w.heap.size, 0, none⟩) hbox).trans HC.out.1
          have f1 := (HB5.out.cell (p := ⟨w.heap.size, 1, none⟩) hbox).trans HC.out.2.1
          go_wp2_with fail
          refine (Check_len (r := rc) A (some ⟨b, off, none⟩) A4 c d3 d4 ps st l _ _ _ rfl HL.out.2.1 HM.out HSM.out (by unfold lenMax; omega) (HP.out.next (below_next HW3.out HB5.out)) HI5.out (HI3.out.next HB5.out) HET.out.2.2.1).mono ?_
          rintro e w6 ⟨rfl, hb6⟩
          have HB6 := Lib.hid (below_next HB5.out hb6)
          clear hb6 f0 f1
          have l0 := (HB6.out.cell (p := ⟨b, off, none⟩) hb).trans HC.out.2.2
          by_cases hE0 : E = 0
          · by_cases htp : t = p
            · have hrc : rc = true := HET.out.2.2.2.2 ⟨hE0, htp⟩
              subst hrc
              subst hE0
              subst htp
              go_wp2
              go_ret
              exact ⟨by simp, below_next HW3.out HB6.out⟩
            · have hrc : rc = false := by
                cases hc : rc with
                | false => rfl
                | true => exact absurd (HET.out.2.2.2.1 hc).2 htp
              have d2 : (t == p) = false := beq_eq_false_iff_ne.2 htp
              subst hrc
              subst hE0
              go_wp2
              go_ret
              exact ⟨by simp, below_next HW3.out HB6.out⟩
          · have hrc : rc = false := by
              cases hc : rc with
              | false => rfl
              | true => exact absurd (HET.out.2.2.2.1 hc).1 hE0
            have d2 : (E == 0) = false := beq_eq_false_iff_ne.2 hE0
            subst hrc
            go_wp2
            go_ret
            exact ⟨by simp, below_next HW3.out HB6.out⟩
  · have hdec : decide ((8 : Int) < (ps.length : Int)) = true := decide_eq_true (by omega)
    go_enter Try.func7, Try.ntmps7
    go_wp2_with fail
    refine (cawake_any _).mono ?_
    rintro e w1 ⟨rfl, hb1⟩
    go_wp2
    go_ret
    exact ⟨rfl, below_next HB.out hb1⟩
end Go.Proofs.Ytkamffjncndabaa
