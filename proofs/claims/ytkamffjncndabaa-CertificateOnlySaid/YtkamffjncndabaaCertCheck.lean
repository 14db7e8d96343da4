/- certificate.Check and certificate.Bound. -/
import Derived.Test.YtkamffjncndabaaCertTight
namespace Go.Proofs.Ytkamffjncndabaa
open Go.RowKit
def CheckP (ps : List Pc) (wd ind : Int) (st l : List Int) : Prop := parB ps wd ind = true ∧ SoundP ps wd ind l ∧ startsB ps.length st = true ∧ TightP ps wd ind st l
theorem check_dec (ps : List Pc) (wd ind : Int) (st l : List Int) : ∃ r : Bool, r = true ↔ CheckP ps wd ind st l := by
  by_cases h : CheckP ps wd ind st l
  · exact ⟨true, by simp [h]⟩
  · exact ⟨false, by simp [h]⟩
theorem Check_any {r : Bool} (A A2 A3 : Option Addr) (c c2 c3 : Nat) (ps : List Pc) (st l : List Int) (wd ind : Int) (w : World) (hm : ps.length ≤ lenMax) (hm2 : st.length ≤ lenMax) (hm3 : l.length ≤ lenMax) (hP : Pcs w w.heap.size A ps) (hI : Ints w w.heap.size A3 st) (hL : Ints w w.heap.size A2 l) (hr : r = true ↔ CheckP ps wd ind st l) :
    Calls Try.prog 17 #[.slice A ps.length c, .int .i64 wd, .int .i64 ind, .slice A3 st.length c3, .slice A2 l.length c2] w fun e w' => e = .returned (.bool r) ∧ Below w.heap.size w w' := by
  have HM := Lib.hid hm
  have HM2 := Lib.hid hm2
  have HM3 := Lib.hid hm3
  have HP := Lib.hid hP
  have HI := Lib.hid hI
  have HL := Lib.hid hL
  clear hm hm2 hm3 hP hI hL
  have HB : Hid (Below w.heap.size w (w.alloc (.cells #[.slice A ps.length c, .int .i64 wd, .int .i64 ind] 54))) := (Below.refl _ _).alloc (Nat.le_refl _) _
  cases hp : parB ps wd ind
  · have hrf : r = false := by
      cases r with
      | false => rfl
      | true => have := (hr.1 rfl).1; rw [hp] at this; cases this
    subst hrf
    have HQ := Lib.hid hp
    clear hp hr
    go_enter Try.func17, Try.ntmps17
    go_wp2_with fail
    refine (cvalid_at _ _ ps _ _ _ HQ.out HM.out (HP.out.next HB.out)).mono ?_
    rintro e w1 ⟨rfl, hb1⟩
    go_wp2
    go_ret
    exact ⟨rfl, below_next HB.out hb1⟩
  · obtain ⟨q, hq⟩ := sound_dec ps wd ind l
    have HQ := Lib.hid hp
    have HS := Lib.hid hq
    cases q
    · have hns : ¬ SoundP ps wd ind l := fun h => by have := hq.2 h; cases this
      have hrf : r = false := by
        cases r with
        | false => rfl
        | true => exact absurd (hr.1 rfl).2.1 hns
      subst hrf
      clear hp hr hq hns
      go_enter Try.func17, Try.ntmps17
      go_wp2_with fail
      refine (cvalid_at _ _ ps _ _ _ HQ.out HM.out (HP.out.next HB.out)).mono ?_
      rintro e w1 ⟨rfl, hb1⟩
      have f0 := kept_box hb1 0 _ rfl
      have f1 := kept_box hb1 1 _ rfl
      have f2 := kept_box hb1 2 _ rfl
      have HB1 := Lib.hid (below_next HB.out hb1)
      clear hb1
      go_wp2_with fail
      refine (csound_any A A2 c c2 ps l wd ind _ HQ.out HS.out HM3.out (HL.out.next HB1.out) (HP.out.next HB1.out)).mono ?_
      rintro e w2 ⟨rfl, hb2⟩
      go_wp2
      go_ret
      exact ⟨rfl, below_next HB1.out hb2⟩
    · have hs : SoundP ps wd ind l := hq.1 rfl
      have hrr : r = true ↔ startsB ps.length st = true ∧ TightP ps wd ind st l := hr.trans ⟨fun h => h.2.2, fun h => ⟨hp, hs, h⟩⟩
      have HRR := Lib.hid hrr
      have HSD := Lib.hid hs
      clear hp hr hq hs hrr
      go_enter Try.func17, Try.ntmps17
      go_wp2_with fail
      refine (cvalid_at _ _ ps _ _ _ HQ.out HM.out (HP.out.next HB.out)).mono ?_
      rintro e w1 ⟨rfl, hb1⟩
      have f0 := kept_box hb1 0 _ rfl
      have f1 := kept_box hb1 1 _ rfl
      have f2 := kept_box hb1 2 _ rfl
      have HB0 := Lib.hid hb1
      have HB1 := Lib.hid (below_next HB.out hb1)
      clear hb1
      go_wp2_with fail
      refine (csound_any (r := true) A A2 c c2 ps l wd ind _ HQ.out ⟨fun _ => HSD.out, fun _ => rfl⟩ HM3.out (HL.out.next HB1.out) (HP.out.next HB1.out)).mono ?_
      rintro e w2 ⟨rfl, hb2⟩
      have HB02 := Lib.hid (below_next HB0.out hb2)
      have HB2 := Lib.hid (below_next HB1.out hb2)
      clear hb2 f0 f1 f2
      have f0 := kept_box HB02.out 0 _ rfl
      have f1 := kept_box HB02.out 1 _ rfl
      have f2 := kept_box HB02.out 2 _ rfl
      go_wp2_with fail
      refine (ctight_any A A2 A3 c c2 c3 ps st l wd ind _ HM2.out HQ.out (HP.out.next HB2.out) (HI.out.next HB2.out) (HL.out.next HB2.out) HSD.out HRR.out).mono ?_
      rintro e w3 ⟨rfl, hb3⟩
      go_wp2
      go_ret
      exact ⟨rfl, below_next HB2.out hb3⟩
theorem Bound_any {r : Bool} (A A2 : Option Addr) (c c2 : Nat) (ps : List Pc) (l : List Int) (wd ind : Int) (w : World) (hm : ps.length ≤ lenMax) (hm3 : l.length ≤ lenMax) (hP : Pcs w w.heap.size A ps) (hL : Ints w w.heap.size A2 l) (hr : r = true ↔ parB ps wd ind = true ∧ SoundP ps wd ind l) :
    Calls Try.prog 16 #[.slice A ps.length c, .int .i64 wd, .int .i64 ind, .slice A2 l.length c2] w fun e w' => e = .returned (.tuple #[.int .i64 (bif r then lAt l 0 else 0), .bool r]) ∧ Below w.heap.size w w' := by
  have HM := Lib.hid hm
  have HM3 := Lib.hid hm3
  have HP := Lib.hid hP
  have HL := Lib.hid hL
  clear hm hm3 hP hL
  have HB : Hid (Below w.heap.size w (w.alloc (.cells #[.slice A ps.length c, .int .i64 wd, .int .i64 ind] 54))) := (Below.refl _ _).alloc (Nat.le_refl _) _
  cases hp : parB ps wd ind
  · have hrf : r = false := by
      cases r with
      | false => rfl
      | true => have := (hr.1 rfl).1; rw [hp] at this; cases this
    subst hrf
    simp only [cond_false]
    have HQ := Lib.hid hp
    clear hp hr
    go_enter Try.func16, Try.ntmps16
    go_wp2_with fail
    refine (cvalid_at _ _ ps _ _ _ HQ.out HM.out (HP.out.next HB.out)).mono ?_
    rintro e w1 ⟨rfl, hb1⟩
    go_wp2
    go_ret2
    exact ⟨rfl, below_next HB.out hb1⟩
  · have HQ := Lib.hid hp
    have hrr : r = true ↔ SoundP ps wd ind l := hr.trans ⟨fun h => h.2, fun h => ⟨hp, h⟩⟩
    have HS := Lib.hid hrr
    clear hp hr
    cases r
    · simp only [cond_false]
      clear hrr
      go_enter Try.func16, Try.ntmps16
      go_wp2_with fail
      refine (cvalid_at _ _ ps _ _ _ HQ.out HM.out (HP.out.next HB.out)).mono ?_
      rintro e w1 ⟨rfl, hb1⟩
      have f0 := kept_box hb1 0 _ rfl
      have f1 := kept_box hb1 1 _ rfl
      have f2 := kept_box hb1 2 _ rfl
      have HB1 := Lib.hid (below_next HB.out hb1)
      clear hb1
      go_wp2_with fail
      refine (csound_any A A2 c c2 ps l wd ind _ HQ.out HS.out HM3.out (HL.out.next HB1.out) (HP.out.next HB1.out)).mono ?_
      rintro e w2 ⟨rfl, hb2⟩
      go_wp2
      go_ret2
      exact ⟨rfl, below_next HB1.out hb2⟩
    · simp only [cond_true]
      have hl0 : 0 < l.length := by have := (hrr.1 rfl).1; omega
      have HSD := Lib.hid (hrr.1 rfl)
      obtain ⟨b, off, rfl, hb, hc⟩ := HL.out hl0
      have HC := Lib.hid (hc 0 hl0)
      obtain ⟨x, hx⟩ : ∃ x, lAt l 0 = x := ⟨_, rfl⟩
      rw [hx] at HC ⊢
      have b1 : (0 : Int) < (l.length : Int) := by omega
      clear hrr hc hx
      go_enter Try.func16, Try.ntmps16
      go_wp2_with fail
      refine (cvalid_at _ _ ps _ _ _ HQ.out HM.out (HP.out.next HB.out)).mono ?_
      rintro e w1 ⟨rfl, hb1⟩
      have f0 := kept_box hb1 0 _ rfl
      have f1 := kept_box hb1 1 _ rfl
      have f2 := kept_box hb1 2 _ rfl
      have HB1 := Lib.hid (below_next HB.out hb1)
      clear hb1
      go_wp2_with fail
      refine (csound_any (r := true) A (some ⟨b, off, none⟩) c c2 ps l wd ind _ HQ.out ⟨fun _ => HSD.out, fun _ => rfl⟩ HM3.out (HL.out.next HB1.out) (HP.out.next HB1.out)).mono ?_
      rintro e w2 ⟨rfl, hb2⟩
      have l0 := ((below_next HB1.out hb2).cell (p := ⟨b, off + 0, none⟩) hb).trans HC.out
      rw [Nat.add_zero] at l0
      have HB2 := Lib.hid (below_next HB1.out hb2)
      clear hb2
      go_wp2
      go_ret2
      exact ⟨rfl, HB2.out⟩
end Go.Proofs.Ytkamffjncndabaa
